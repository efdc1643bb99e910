/-
  lent: a copy of a list with marks behind its length.
-/
import Derived.Test.YtakegkdmpcakdaaQHuArg
import Derived.Deep.OwnRows
import Derived.Laws.OwnMore
import Derived.Laws.CopyOwn
import Derived.Test.YtakegkdmpcakdaaQChg
import Derived.Test.YtakegkdmpcakdaaQG5
namespace Go.Proofs.Ytakegkdmpcakdaa
open Go.RowKit
set_option linter.unusedVariables false
set_option linter.unusedSimpArgs false

theorem infoU : (Try.prog.info? 22).map (fun i => (i.zero, i.size, i.bytes)) = some (some (.int .u64 0), 1, 8) := by kernel_rfl
/-- The copy's cells, behind so many marks. -/
def lentC (L : List Int) (a b c : Int) : List Value := L.map (Value.int .u64) ++ [.int .u64 a, .int .u64 b, .int .u64 c]
theorem lentC_get {L : List Int} {a b c : Int} {i : Nat} (h : i < L.length) : (lentC L a b c)[i]? = some (.int .u64 (L.getD i 0)) := by
  unfold lentC
  rw [List.getElem?_append_left (by simpa using h), List.getElem?_map, List.getElem?_eq_getElem h, List.getD_eq_getElem?_getD, List.getElem?_eq_getElem h]
  rfl
theorem lentC_0 {L : List Int} {a b c : Int} : (lentC L a b c)[L.length]? = some (.int .u64 a) := by
  unfold lentC; rw [List.getElem?_append_right (by simp)]; simp
theorem lentC_1 {L : List Int} {a b c : Int} : (lentC L a b c)[L.length + 1]? = some (.int .u64 b) := by
  unfold lentC; rw [List.getElem?_append_right (by simp)]; simp
theorem lentC_2 {L : List Int} {a b c : Int} : (lentC L a b c)[L.length + 2]? = some (.int .u64 c) := by
  unfold lentC; rw [List.getElem?_append_right (by simp)]; simp
theorem lentC_s0 {L : List Int} {a b c x : Int} : (lentC L a b c).toArray.setIfInBounds L.length (.int .u64 x) = (lentC L x b c).toArray := by
  rw [List.setIfInBounds_toArray]; unfold lentC; rw [List.set_append_right _ _ (by simp)]; simp
theorem lentC_s1 {L : List Int} {a b c x : Int} : (lentC L a b c).toArray.setIfInBounds (L.length + 1) (.int .u64 x) = (lentC L a x c).toArray := by
  rw [List.setIfInBounds_toArray]; unfold lentC; rw [List.set_append_right _ _ (by simp)]; simp
theorem lentC_s2 {L : List Int} {a b c x : Int} : (lentC L a b c).toArray.setIfInBounds (L.length + 2) (.int .u64 x) = (lentC L a b x).toArray := by
  rw [List.setIfInBounds_toArray]; unfold lentC; rw [List.set_append_right _ _ (by simp)]; simp
theorem made_list (n : Nat) : madeCells #[Value.int .u64 0] n = (List.replicate n (Value.int .u64 0)).toArray := by
  rw [← toList_madeCells_one]
theorem lent_splice (L : List Int) : splice (List.replicate (L.length + 3) (Value.int .u64 0)) 0 (L.map (Value.int .u64)) = lentC L 0 0 0 := by
  unfold splice lentC
  simp only [List.take_zero, List.nil_append, Nat.zero_add, List.length_map, List.drop_replicate]
  rw [show L.length + 3 - L.length = 3 from by omega]; rfl
set_option maxHeartbeats 4000000 in
set_option maxRecDepth 10000 in
theorem lent_any (A : Option Addr) (c : Nat) (L : List Int) (hn : L.length ≤ 17592186044416) (w : World) (hA : ArgU w A L) :
    Calls Try.prog 14 #[.slice A L.length c] w fun e w' => ∃ g, e = .returned (.slice (some ⟨g, 0, none⟩) L.length (L.length + 3)) ∧ w.heap.size ≤ g ∧ Blk w' g 22 (lentC L 77 77 77).toArray ∧ Below w.heap.size w w' := by
  obtain ⟨i0, hi, hz0, hz1, hz2⟩ := info_parts infoU
  have HA := Lib.hid hA
  have v1 : IntKind.i64.wrap ((L.length : Int) + 3) = (L.length : Int) + 3 := IntWalk.i64_in _ (by omega)
  clear hA
  have HB : Hid ((w.alloc (.cells (madeCells #[Value.int .u64 0] (L.length + 3)) 22)).heap[w.heap.size]? = some (.cells (List.replicate (L.length + 3) (Value.int .u64 0)).toArray 22 (0, 0))) := Lib.hid (by rw [made_list]; exact Blk.new _ _ _)
  have HBe : Hid (Below w.heap.size w (w.alloc (.cells (madeCells #[Value.int .u64 0] (L.length + 3)) 22))) := Lib.hid (below_new (Below.refl _ _) _)
  have HN : Hid ((L.map (Value.int .u64)).length = Nat.min L.length (L.length + 3)) := Lib.hid (by simp [Nat.min_def])
  have HF : Hid (0 + (L.map (Value.int .u64)).length ≤ (List.replicate (L.length + 3) (Value.int .u64 0)).length) := Lib.hid (by simp)
  have H1 : Hid (∀ v ∈ L.map (Value.int .u64), v.oneCell' = true) := Lib.hid (by intro u hu; obtain ⟨k, _, rfl⟩ := List.mem_map.1 hu; rfl)
  have HP : Hid (0 < (L.map (Value.int .u64)).length → (some ⟨w.heap.size, 0, none⟩ : Option Addr) = some ⟨w.heap.size, 0, none⟩ ∧ ∃ ad, A = some ad ∧ ∀ j v, (L.map (Value.int .u64))[j]? = some v → (w.alloc (.cells (madeCells #[Value.int .u64 0] (L.length + 3)) 22)).cell? (ad.add j) = some v) := Lib.hid (by
    intro h0
    obtain ⟨b, o, hA, hb, hc⟩ := HA.out (by simpa using h0)
    refine ⟨rfl, _, hA, fun j v hv => ?_⟩
    rw [List.getElem?_map] at hv
    cases hj : L[j]? with
    | none => rw [hj] at hv; simp at hv
    | some x =>
      rw [hj] at hv
      simp only [Option.map_some, Option.some.injEq] at hv
      subst hv
      obtain ⟨hj1, hj2⟩ := List.getElem?_eq_some_iff.1 hj
      have := hc j hj1
      rw [hj2] at this
      have hadd : (⟨b, o, none⟩ : Addr).add j = ⟨b, o + j, none⟩ := by unfold Addr.add; split <;> simp_all
      rw [hadd]
      exact (HBe.out.cell (p := ⟨b, _, none⟩) hb).trans this)
  go_enter Try.func14, Try.ntmps14
  go_wp2_with (first | (refine wpList_make_row _ rfl (.tmp 7) (.tmp 7) 33 rfl 22 i0 _ Try.underlying33 hi hz0 hz1 rfl .i64 .i64 (L.length + 3) (by rfl) (by rfl) (by rw [hz2]; omega) (by omega) ?_) | (refine wpList_copy_splice rfl (.tmp 9) (.tmp 10) 33 33 rfl 22 Try.underlying33 (by kernel_rfl) (some ⟨w.heap.size, 0, none⟩) A (L.length + 3) (L.length + 3) L.length c (by rfl) (by rfl) w.heap.size 0 (List.replicate (L.length + 3) (Value.int .u64 0)) 22 HB.out (L.map (Value.int .u64)) HN.out HP.out HF.out H1.out w.heap.size w HBe.out (Nat.le_refl _) ?_; intro w2 h2 hb2; have HW := Lib.hid hb2; clear hb2))
  have B2 : Hid (Blk w2 w.heap.size 22 (lentC L 0 0 0).toArray) := Lib.hid (by have := h2.out; rw [lent_splice] at this; exact this)
  have B3 : Hid (Blk (w2.setCell ⟨w.heap.size, L.length, none⟩ (.int .u64 77)) w.heap.size 22 (lentC L 77 0 0).toArray) := Lib.hid (by have := B2.out.set L.length (.int .u64 77); rwa [lentC_s0] at this)
  have B4 : Hid (Blk ((w2.setCell ⟨w.heap.size, L.length, none⟩ (.int .u64 77)).setCell ⟨w.heap.size, L.length + 1, none⟩ (.int .u64 77)) w.heap.size 22 (lentC L 77 77 0).toArray) := Lib.hid (by have := B3.out.set (L.length + 1) (.int .u64 77); rwa [lentC_s1] at this)
  have B5 : Hid (Blk (((w2.setCell ⟨w.heap.size, L.length, none⟩ (.int .u64 77)).setCell ⟨w.heap.size, L.length + 1, none⟩ (.int .u64 77)).setCell ⟨w.heap.size, L.length + 2, none⟩ (.int .u64 77)) w.heap.size 22 (lentC L 77 77 77).toArray) := Lib.hid (by have := B4.out.set (L.length + 2) (.int .u64 77); rwa [lentC_s2] at this)
  have x0 : w2.cell? ⟨w.heap.size, L.length, none⟩ = some (.int .u64 0) := by rw [B2.out.cell]; simpa using lentC_0 (L := L) (a := 0) (b := 0) (c := 0)
  have f0 := B2.out.free L.length
  have x1 : (w2.setCell ⟨w.heap.size, L.length, none⟩ (.int .u64 77)).cell? ⟨w.heap.size, L.length + 1, none⟩ = some (.int .u64 0) := by rw [B3.out.cell]; simpa using lentC_1 (L := L) (a := 77) (b := 0) (c := 0)
  have f1 := B3.out.free (L.length + 1)
  have x2 : ((w2.setCell ⟨w.heap.size, L.length, none⟩ (.int .u64 77)).setCell ⟨w.heap.size, L.length + 1, none⟩ (.int .u64 77)).cell? ⟨w.heap.size, L.length + 1 + 1, none⟩ = some (.int .u64 0) := by rw [B4.out.cell]; simpa using lentC_2 (L := L) (a := 77) (b := 77) (c := 0)
  have f2 := B4.out.free (L.length + 1 + 1)
  clear h2 HB HBe HN HF H1 HP
  refine wp_loop_rounds 4 ?_
  rw [rounds_succ]
  go_wp2_with fail
  rw [rounds_succ]
  go_wp2_with fail
  rw [rounds_succ]
  go_wp2_with fail
  rw [rounds_succ]
  go_wp2_with fail
  go_ret
  exact ⟨_, rfl, Nat.le_refl _, B5.out, ((HW.out.setCell (p := ⟨w.heap.size, L.length, none⟩) (Nat.le_refl _) _).setCell (p := ⟨w.heap.size, L.length + 1, none⟩) (Nat.le_refl _) _).setCell (p := ⟨w.heap.size, L.length + 2, none⟩) (Nat.le_refl _) _⟩
theorem lent_arg {w : World} {g : Nat} {L : List Int} {a b c : Int} (h : Blk w g 22 (lentC L a b c).toArray) : ArgU w (some ⟨g, 0, none⟩) L := by
  intro hn
  refine ⟨g, 0, rfl, h.lt, fun i hi => ?_⟩
  rw [Nat.zero_add, h.cell]
  have := lentC_get (L := L) (a := a) (b := b) (c := c) hi
  rw [List.getD_eq_getElem?_getD, List.getElem?_eq_getElem hi] at this
  simpa using this
end Go.Proofs.Ytakegkdmpcakdaa
/-
  kept: the copy is as it was.
-/
namespace Go.Proofs.Ytakegkdmpcakdaa
open Go.RowKit
set_option linter.unusedVariables false
set_option linter.unusedSimpArgs false

structure KE (w : World) (g : Nat) (L : List Int) (wr : World) : Prop where
  b : Blk wr g 22 (lentC L 77 77 77).toArray
  bel : Below w.heap.size w wr
theorem KE.drewN {w wr : World} {g : Nat} {L : List Int} (h : KE w g L wr) (n : Nat) : KE w g L (wr.drewN n) := ⟨h.b.drewN n, drewN_below h.bel n⟩
theorem lentC_77 {L : List Int} {i : Nat} (h : L.length ≤ i) (h2 : i < L.length + 3) : (lentC L 77 77 77)[i]? = some (.int .u64 77) := by
  have : i = L.length ∨ i = L.length + 1 ∨ i = L.length + 2 := by omega
  rcases this with rfl | rfl | rfl
  · exact lentC_0
  · exact lentC_1
  · exact lentC_2
set_option maxHeartbeats 4000000 in
set_option maxRecDepth 100000 in
theorem kept_any (A : Option Addr) (c g : Nat) (L : List Int) (hn : L.length ≤ 17592186044416) (w : World) (hA : ArgU w A L) (hB : Blk w g 22 (lentC L 77 77 77).toArray) :
    Calls Try.prog 18 #[.slice (some ⟨g, 0, none⟩) L.length (L.length + 3), .slice A L.length c] w fun e w' => e = .returned (.bool true) ∧ Below w.heap.size w w' := by
  have HA := Lib.hid hA
  have HK : Hid (KE w g L w) := Lib.hid ⟨hB, Below.refl _ _⟩
  have v1 : IntKind.i64.wrap ((L.length : Int) + 3) = (L.length : Int) + 3 := IntWalk.i64_in _ (by omega)
  clear hA hB
  go_enter Try.func18, Try.ntmps18
  go_wp2_with fail
  go_loopw [5] (fun y wr => ∃ i : Nat, i ≤ L.length + 3 ∧ y = .int .i64 i ∧ Hid (KE w g L wr)) (fun y _ => L.length + 3 - (intOf y).toNat)
  case atStart => exact ⟨0, Nat.zero_le _, rfl, HK⟩
  case round =>
    obtain ⟨i, hi, rfl, HJ⟩ := hrel
    clear HK
    by_cases hlt : i < L.length + 3
    · have i0 : (0 : Int) ≤ (i : Int) := by omega
      have i1 : (i : Int) < (L.length : Int) + 3 := by omega
      by_cases hin : i < L.length
      · obtain ⟨b, o, rfl, hb, hc0, hc⟩ := HA.out.first (by omega)
        have ci : wr.cell? ⟨b, o + i, none⟩ = some (.int .u64 (L.getD i 0)) := (HJ.out.bel.cell (p := ⟨b, _, none⟩) hb).trans (hc i hin)
        have cg : wr.cell? ⟨g, i, none⟩ = some (.int .u64 (L.getD i 0)) := by rw [HJ.out.b.cell]; simpa using lentC_get (a := 77) (b := 77) (c := 77) hin
        have g1 : decide ((i : Int) < (L.length : Int)) = true := by simpa using hin
        have g2 : decide ((L.length : Int) ≤ (i : Int)) = false := by simp; omega
        have g3 : decide (i < L.length) = true := by simpa using hin
        have g4 : decide (L.length ≤ i) = false := by simp; omega
        have i2 : (i : Int) < (L.length : Int) := by omega
        generalize L.getD i 0 = k at *
        clear hc hc0 hb
        go_upto_region 5 with fail
        go_quiet (fail)
        go_wp2_with fail
        go_roundw
        case rel => exact ⟨i + 1, by omega, by go_num, Lib.hid (HJ.out.drewN _)⟩
        case measure => simp [intOf]; omega
      · have cg : wr.cell? ⟨g, i, none⟩ = some (.int .u64 77) := by rw [HJ.out.b.cell]; simpa using lentC_77 (by omega) hlt
        have g1 : decide ((i : Int) < (L.length : Int)) = false := by simp; omega
        have g2 : decide ((L.length : Int) ≤ (i : Int)) = true := by simp; omega
        have g3 : decide (i < L.length) = false := by simpa using hin
        have g4 : decide (L.length ≤ i) = true := by simp; omega
        go_upto_region 5 with fail
        go_quiet (fail)
        go_wp2_with fail
        go_roundw
        case rel => exact ⟨i + 1, by omega, by go_num, Lib.hid (HJ.out.drewN _)⟩
        case measure => simp [intOf]; omega
    · have g5 : decide ((i : Int) < (L.length : Int) + 3) = false := by simp; omega
      have g6 : decide (i < L.length + 3) = false := by simpa using hlt
      go_wp2_with fail
      go_ret
      exact ⟨rfl, HJ.out.bel⟩
end Go.Proofs.Ytakegkdmpcakdaa
