/-
  The reference's buffer: its functions, walked.
-/
import Derived.Test.YtalhfjcopkmmlaaBfShown
namespace Go.Proofs.Ytalhfjcopkmmlaa
open Go.RowKit
set_option linter.unusedVariables false
set_option linter.unusedSimpArgs false

/-- The reference's buffer behind a pointer. -/
structure Ref (w : World) (b : Nat) (most : Int) (es : List Ent) (v : Value) : Prop where
  blk : Blk w b 58 #[.int .i64 most, v]
  row : Row w v es
theorem Ref.chg {S : Nat → Prop} {w w' : World} {b : Nat} {most : Int} {es : List Ent} {v : Value} (h : Ref w b most es v) (k : Chg S w w') (hb : ¬ S b) (hv : ∀ g, v.ownBlock = some g → ¬ S g) : Ref w' b most es v :=
  ⟨h.blk.chg k hb, h.row.chg k hv⟩
theorem Ref.below {w w' : World} {b : Nat} {most : Int} {es : List Ent} {v : Value} (h : Ref w b most es v) (k : Below w.heap.size w w') : Ref w' b most es v :=
  h.chg (Chg.of_below k) (fun h => h) (fun _ _ h => h)
theorem Ref.drewN {w : World} {b : Nat} {most : Int} {es : List Ent} {v : Value} (h : Ref w b most es v) (n : Nat) : Ref (w.drewN n) b most es v := ⟨h.blk, h.row⟩
theorem Ref.ne {w : World} {b : Nat} {most : Int} {es : List Ent} {v : Value} (h : Ref w b most es v) : v.ownBlock ≠ some b := own_ne_blk h.row h.blk (by decide)

theorem rnew_bad (most : Int) (h : most < 1 ∨ 4294967296 < most) (w : World) :
    Calls Try.prog 15 #[.int .i64 most] w fun e w' => e = .returned (.tuple #[.pointer none, .int .i64 1]) ∧ w = w' := by
  by_cases h1 : most < 1
  · go_enter Try.func15, Try.ntmps15
    go_wp2
    go_ret2
    exact ⟨rfl, rfl⟩
  · have h2 : 4294967296 < most := by omega
    go_enter Try.func15, Try.ntmps15
    go_wp2
    go_ret2
    exact ⟨rfl, rfl⟩
theorem rnew_good (most : Int) (h1 : ¬ most < 1) (h2 : ¬ 4294967296 < most) (w : World) :
    Calls Try.prog 15 #[.int .i64 most] w fun e w' => e = .returned (.tuple #[.pointer (some ⟨w.heap.size, 0, none⟩), .int .i64 0]) ∧ Ref w' w.heap.size most [] (.slice none 0 0) ∧ Below w.heap.size w w' := by
  go_enter Try.func15, Try.ntmps15
  go_wp2
  go_ret2
  exact ⟨rfl, ⟨Blk.new _ _ _, Row.nil _⟩, below_new (Below.refl _ _) _⟩
theorem rfull_any (b : Nat) (most : Int) (es : List Ent) (v : Value) (w : World) (hw : Ref w b most es v) :
    Calls Try.prog 27 #[.pointer (some ⟨b, 0, none⟩)] w fun e w' => e = .returned (.bool ((es.length : Int) == most)) ∧ ∃ n, w' = w.drewN n := by
  have c0 : w.cell? ⟨b, 0, none⟩ = some (.int .i64 most) := hw.blk.cell 0
  have c1 : w.cell? ⟨b, 1, none⟩ = some v := hw.blk.cell 1
  obtain ⟨A, c, rfl⟩ := hw.row.val
  have HW := Lib.hid hw
  clear hw
  go_enter Try.func27, Try.ntmps27
  go_wp2
  go_quiet (fail)
  go_wp2
  go_ret
  exact ⟨rfl, _, rfl⟩
theorem rempty_any (b : Nat) (most : Int) (es : List Ent) (v : Value) (w : World) (hw : Ref w b most es v) :
    Calls Try.prog 21 #[.pointer (some ⟨b, 0, none⟩)] w fun e w' => e = .returned v ∧ Row w' v es ∧ Ref w' b most [] (.slice none 0 0) ∧ Chg (fun k => k = b) w w' := by
  have c1 : w.cell? ⟨b, 1, none⟩ = some v := hw.blk.cell 1
  have f1 := hw.blk.free 1
  obtain ⟨A, c, rfl⟩ := hw.row.val
  have HW := Lib.hid hw
  clear hw
  go_enter Try.func21, Try.ntmps21
  go_wp2
  have K : Chg (fun k => k = b) w (w.setCell ⟨b, 1, none⟩ (.slice none 0 0)) := Chg.setCell (S := fun k => k = b) (Chg.refl _ _) (p := ⟨b, 1, none⟩) (fun _ => rfl) _
  have B2 : Blk (w.setCell ⟨b, 1, none⟩ (.slice none 0 0)) b 58 #[.int .i64 most, .slice none 0 0] := HW.out.blk.set 1 _
  have R2 : Row (w.setCell ⟨b, 1, none⟩ (.slice none 0 0)) (.slice A es.length c) es := own_far HW.out.row HW.out.ne _
  go_ret
  exact ⟨rfl, R2, ⟨B2, Row.nil _⟩, K⟩

/-- Where the reference looks. -/
def RankTo (k : Int) (es : List Ent) (n : Nat) (x : Value) : Prop := ∃ i : Nat, i ≤ n ∧ x = .int .i64 i ∧ ∀ t (h : t < es.length), t < i → es[t].1 < k
set_option maxHeartbeats 1000000 in
theorem rplace_any (b : Nat) (most : Int) (es : List Ent) (v : Value) (k : Int) (hlen : es.length ≤ 4611686018427387904) (w : World) (hw : Ref w b most es v) :
    Calls Try.prog 25 #[.pointer (some ⟨b, 0, none⟩), .int .u64 k] w fun e w' => e = .returned (.int .i64 (rk k es)) ∧ w = w' := by
  have c1 : w.cell? ⟨b, 1, none⟩ = some v := hw.blk.cell 1
  obtain ⟨A, c, rfl⟩ := hw.row.val
  have hr := hw.row
  clear hw
  go_enter Try.func25, Try.ntmps25
  go_wp2
  go_loop [5] (fun x => RankTo k es es.length x) (fun x => es.length - (intOf x).toNat)
  case atStart => exact ⟨0, Nat.zero_le _, rfl, fun _ _ h => absurd h (by omega)⟩
  case round =>
    obtain ⟨i, hi, rfl, hlo⟩ := hrel
    have HLO := Lib.hid hlo
    clear hlo
    by_cases hlt : i < es.length
    · obtain ⟨g, cap, hv, _⟩ := hr.form.resolve_left (fun h => by rw [h.2] at hlt; simp at hlt)
      injection hv with hA _ hc
      subst hA hc
      obtain ⟨p0, p1, p2⟩ := hr.cells hlt
      by_cases hk : es[i].1 < k
      · have HK := Lib.hid hk
        go_wp2
        go_round
        case rel => exact ⟨i + 1, hlt, by go_num, fun t ht hti => by
          rcases Nat.lt_or_ge t i with h1 | h1
          · exact HLO.out t ht h1
          · obtain rfl : t = i := by omega
            exact HK.out⟩
        case measure => simp [intOf]; omega
      · have HK : Hid (i = rk k es) := Lib.hid (rk_eq k es i (by omega) HLO.out (fun _ => hk))
        go_wp2
        go_ret
        exact ⟨by rw [← HK.out]; rfl, rfl⟩
    · have HK : Hid (i = rk k es) := Lib.hid (rk_eq k es i (by omega) HLO.out (fun h => absurd h hlt))
      go_wp2
      go_ret
      exact ⟨by rw [← HK.out]; rfl, rfl⟩

theorem rget_any (b : Nat) (most : Int) (es : List Ent) (v : Value) (k : Int) (hlen : es.length ≤ 4611686018427387904) (w : World) (hw : Ref w b most es v) :
    Calls Try.prog 26 #[.pointer (some ⟨b, 0, none⟩), .int .u64 k] w fun e w' =>
      e = .returned (.tuple #[.agg (ecells (getL es k).1).toArray, .bool (getL es k).2]) ∧ Below w.heap.size w w' := by
  have hw1 := hw.below (below_new (Below.refl _ _) (.cells #[.int .u64 0, .int .u64 0, .bool false] 27))
  have P := rplace_any b most es _ k hlen _ hw1
  have R9 := Blk.new w 27 #[.int .u64 0, .int .u64 0, .bool false]
  have c1 : (w.alloc (.cells #[.int .u64 0, .int .u64 0, .bool false] 27)).cell? ⟨b, 1, none⟩ = some v := hw1.blk.cell 1
  obtain ⟨A, c, rfl⟩ := hw.row.val
  have hrk := rk_le k es
  by_cases hl : rk k es < es.length
  · obtain ⟨g, cap, hv, _⟩ := hw.row.form.resolve_left (fun h => by rw [h.2] at hl; simp at hl)
    injection hv with hA _ hc
    subst hA hc
    obtain ⟨p0, p1, p2⟩ := hw1.row.cells hl
    by_cases hk : es[rk k es].1 = k
    · have ht : there k es = true := by rw [there_of_lt hl]; simpa using hk
      have E : getL es k = (es[rk k es], true) := by unfold getL; rw [if_pos ht, List.getElem?_eq_getElem hl]; rfl
      rw [E]
      have g1 : (es[rk k es].1 == k) = true := by simpa using hk
      have HE := Lib.hid E
      clear E ht hk hw hw1
      go_enter Try.func26, Try.ntmps26
      go_wp2_with (go_at_call 25; refine P.mono ?_; rintro e w' ⟨rfl, rfl⟩)
      refine bodyPost_ret (results_ct rfl _ (g := w.heap.size) (t := 27) (cs := #[.int .u64 es[rk k es].1, .int .u64 es[rk k es].2.1, .bool es[rk k es].2.2]) (x := .bool true) rfl rfl ?_ Try.underlying27 rfl (by kernel_rfl)) rfl ?_
      · first | exact Blk.new _ _ _ | exact Blk.set3 R9
      · first | exact ⟨rfl, below_new (Below.refl _ _) _⟩ | exact ⟨rfl, below_set3 (below_new (Below.refl _ _) _) (Nat.le_refl _)⟩
    · have ht : there k es = false := by rw [there_of_lt hl]; simpa using hk
      have E : getL es k = ((0, 0, false), false) := by unfold getL; rw [if_neg (by simp [ht])]
      rw [E]
      have g1 : (es[rk k es].1 == k) = false := by simpa using hk
      have HE := Lib.hid E
      clear E ht hk hw hw1
      go_enter Try.func26, Try.ntmps26
      go_wp2_with (go_at_call 25; refine P.mono ?_; rintro e w' ⟨rfl, rfl⟩)
      refine bodyPost_ret (results_ct rfl _ (g := w.heap.size) (t := 27) (cs := #[.int .u64 0, .int .u64 0, .bool false]) (x := .bool false) rfl rfl ?_ Try.underlying27 rfl (by kernel_rfl)) rfl ?_
      · first | exact Blk.new _ _ _ | exact Blk.set3 R9
      · first | exact ⟨rfl, below_new (Below.refl _ _) _⟩ | exact ⟨rfl, below_set3 (below_new (Below.refl _ _) _) (Nat.le_refl _)⟩
  · have ht : there k es = false := there_end hl
    have E : getL es k = ((0, 0, false), false) := by unfold getL; rw [if_neg (by simp [ht])]
    rw [E]
    have HE := Lib.hid E
    clear E ht hw hw1
    go_enter Try.func26, Try.ntmps26
    go_wp2_with (go_at_call 25; refine P.mono ?_; rintro e w' ⟨rfl, rfl⟩)
    refine bodyPost_ret (results_ct rfl _ (g := w.heap.size) (t := 27) (cs := #[.int .u64 0, .int .u64 0, .bool false]) (x := .bool false) rfl rfl ?_ Try.underlying27 rfl (by kernel_rfl)) rfl ?_
    · first | exact Blk.new _ _ _ | exact Blk.set3 R9
    · first | exact ⟨rfl, below_new (Below.refl _ _) _⟩ | exact ⟨rfl, below_set3 (below_new (Below.refl _ _) _) (Nat.le_refl _)⟩
end Go.Proofs.Ytalhfjcopkmmlaa
