/-
  'mark' lays something else into a caller's list and behind it; the reference's clone.
-/
import Derived.Test.YtalhfjcopkmmlaaBfRef
import Derived.Test.YtalhfjcopkmmlaaReads
import Derived.Test.YtalhfjcopkmmlaaBfArg
namespace Go.Proofs.Ytalhfjcopkmmlaa
open Go.RowKit
set_option linter.unusedVariables false
set_option linter.unusedSimpArgs false

structure MarkSoFar (w : World) (g n cap : Nat) (x : Value) (wr : World) (i : Nat) (es : List Ent) : Prop where
  le : i ≤ n
  at_ : x = .int .i64 i
  len : es.length = n
  row : Row wr (.slice (some ⟨g, 0, none⟩) n cap) es
  chg : Chg (fun k => k = g) w wr
def MarksTo (w : World) (g n cap : Nat) (x : Value) (wr : World) : Prop := ∃ i es, MarkSoFar w g n cap x wr i es

theorem mark_tail {w wr w2 : World} {g n cap g2 cap2 : Nat} {fs : List Ent} {o : Obj} (K : Chg (fun k => k = g) w wr) (hl : fs.length = n) (hown : w2.ownsRow 0 27 3 (.slice (some ⟨g2, 0, none⟩) (n + 2) cap2) (n + 2) (flat fs ++ flat [(12345, 0, false), (12346, 0, false)]))
    (hgr : (wr.alloc o).grownBy w2 (Value.slice (some ⟨g, 0, none⟩) n cap).ownBlock) (hat : (Value.slice (some ⟨g, 0, none⟩) n cap).ownBlock = some g2 ∨ g2 = wr.heap.size + 1) :
    (∃ v, w2.cell? ⟨g2, (n + 1) * 3 + 1, none⟩ = some v) ∧ w2.frozen? ⟨g2, (n + 1) * 3 + 1, none⟩ = false ∧ ∀ u, Chg (fun k => k = g) w (w2.setCell ⟨g2, (n + 1) * 3 + 1, none⟩ u) := by
  have R : Row w2 (.slice (some ⟨g2, 0, none⟩) (n + 2) cap2) (fs ++ [(12345, 0, false), (12346, 0, false)]) := by
    unfold Row; rw [flat_append, List.length_append, hl]; exact hown
  refine ⟨⟨_, (R.cells (i := n + 1) (by rw [List.length_append, hl]; simp)).2.1⟩, R.free _, fun u => ?_⟩
  have k2 : Chg (fun k => k = g) w w2 := (K.alloc o).grown hgr (fun k hk _ => by simp only [Value.ownBlock, Option.some.injEq] at hk; exact hk.symm)
  refine k2.setCell (p := ⟨g2, (n + 1) * 3 + 1, none⟩) (fun hlt => ?_) u
  rcases hat with h | h
  · simp only [Value.ownBlock, Option.some.injEq] at h; exact h.symm
  · have := K.size; simp only [] at hlt; omega
theorem mark_tail0 {wr w2 : World} {g2 cap2 : Nat} {o : Obj} (hown : w2.ownsRow 0 27 3 (.slice (some ⟨g2, 0, none⟩) (0 + 2) cap2) (0 + 2) ([] ++ flat [(12345, 0, false), (12346, 0, false)]))
    (hgr : (wr.alloc o).grownBy w2 (Value.slice none 0 0).ownBlock) (hat : (Value.slice none 0 0).ownBlock = some g2 ∨ g2 = wr.heap.size + 1) :
    (∃ v, w2.cell? ⟨g2, 4, none⟩ = some v) ∧ w2.frozen? ⟨g2, 4, none⟩ = false ∧ ∀ u, Chg (fun _ => False) wr (w2.setCell ⟨g2, 4, none⟩ u) := by
  have R : Row w2 (.slice (some ⟨g2, 0, none⟩) 2 cap2) [(12345, 0, false), (12346, 0, false)] := hown
  refine ⟨⟨_, (R.cells (i := 1) (by simp)).2.1⟩, R.free _, fun u => ?_⟩
  have k2 : Chg (fun _ => False) wr w2 := ((Chg.refl _ _).alloc o).grown hgr (fun k hk _ => by simp [Value.ownBlock] at hk)
  refine k2.setCell (p := ⟨g2, 4, none⟩) (fun hlt => ?_) u
  rcases hat with h | h
  · simp [Value.ownBlock] at h
  · simp only [] at hlt; omega

set_option maxHeartbeats 2000000 in
theorem mark_row (es : List Ent) (g cap : Nat) (hlen : (es.length + 2) * 24 ≤ 140737488355328) (w : World) (hw : Row w (.slice (some ⟨g, 0, none⟩) es.length cap) es) :
    Calls Try.prog 19 #[.slice (some ⟨g, 0, none⟩) es.length cap] w fun e w' => e = .returned (.tuple #[]) ∧ Chg (fun k => k = g) w w' := by
  obtain ⟨i0, hi, hz0, hz1, hz2⟩ := info_parts infoE
  go_enter Try.func19, Try.ntmps19
  go_wp2
  go_loopw [2] (fun x wr => MarksTo w g es.length cap x wr) (fun x _ => es.length - (intOf x).toNat)
  case atStart => exact ⟨0, es, Nat.zero_le _, rfl, rfl, hw, Chg.refl _ _⟩
  case round =>
    obtain ⟨i, fs, hi2, rfl, hl, R, K⟩ := hrel
    by_cases hlt : i < es.length
    · have hlf : i < fs.length := by omega
      obtain ⟨c0, c1, c2⟩ := R.cells hlf
      have g0 := R.free (i * 3)
      have g1 := R.free (i * 3 + 1)
      have g2 := R.free (i * 3 + 2)
      have ST := Lib.hid (R.store hlf (12345, 54321, false))
      have HL := Lib.hid hl
      clear hl
      go_wp2
      go_roundw
      case rel => exact ⟨i + 1, _, hlt, by go_num, by rw [List.length_set]; exact HL.out, ST.out, ((K.setCell (p := ⟨g, i * 3, none⟩) (fun _ => rfl) _).setCell (p := ⟨g, i * 3 + 1, none⟩) (fun _ => rfl) _).setCell (p := ⟨g, i * 3 + 2, none⟩) (fun _ => rfl) _⟩
      case measure => simp [intOf]; omega
    · obtain rfl : i = es.length := by omega
      have HL := Lib.hid hl
      have OW : Hid ((wr.alloc (.cells #[.int .u64 12345, .int .u64 0, .bool false, .int .u64 12346, .int .u64 0, .bool false] 27)).ownsRow 0 27 3 (.slice (some ⟨g, 0, none⟩) es.length cap) es.length (flat fs)) := Lib.hid (by have := own_chg R ((Chg.refl (fun _ => False) wr).alloc (.cells #[.int .u64 12345, .int .u64 0, .bool false, .int .u64 12346, .int .u64 0, .bool false] 27)) (fun _ _ h => h); rw [hl] at this; exact this)
      have HLE := Lib.hid (length_flat [(12345, 0, false), (12346, 0, false)])
      have HFO := Lib.hid (flat_one [(12345, 0, false), (12346, 0, false)])
      have NW : Hid (∀ j u, (flat [(12345, 0, false), (12346, 0, false)])[j]? = some u → (wr.alloc (.cells #[.int .u64 12345, .int .u64 0, .bool false, .int .u64 12346, .int .u64 0, .bool false] 27)).cell? ((⟨wr.heap.size, 0, none⟩ : Addr).add j) = some u) := Lib.hid (World.news_of_block (Blk.new wr _ _))
      clear hl
      go_wp2_with (at_builtin; refine wpList_append_lies _ rfl (.tmp 13) (.tmp 16) 22 (by rfl) 0 27 i0 _ 3 24 Try.underlying22 hi hz0 hz1 hz2 rfl (by omega) (.slice (some ⟨g, 0, none⟩) es.length cap) es.length (flat fs) (by rfl) OW.out ⟨wr.heap.size, 0, none⟩ 2 2 (flat [(12345, 0, false), (12346, 0, false)]) (by rfl) HLE.out NW.out HFO.out (by omega) (by unfold maxLen; omega) (by omega) (Nat.zero_le _) (wr.heap.size + 1) (by simp) ?_; intro g2 cap2 w2 hown hgr hat hlt2; have MT := Lib.hid (mark_tail K HL.out hown hgr hat); obtain ⟨v9, hv9⟩ := MT.out.1; have f9 := MT.out.2.1; clear hown hgr hat)
      go_end0
      exact ⟨rfl, MT.out.2.2 _⟩
set_option maxHeartbeats 2000000 in
theorem mark_nil (w : World) :
    Calls Try.prog 19 #[.slice none 0 0] w fun e w' => e = .returned (.tuple #[]) ∧ Chg (fun _ => False) w w' := by
  obtain ⟨i0, hi, hz0, hz1, hz2⟩ := info_parts infoE
  go_enter Try.func19, Try.ntmps19
  go_wp2
  refine wp_loop_rounds 1 ?_
  rw [rounds_succ]
  have HLE := Lib.hid (length_flat [(12345, 0, false), (12346, 0, false)])
  have HFO := Lib.hid (flat_one [(12345, 0, false), (12346, 0, false)])
  have NW : Hid (∀ j u, (flat [(12345, 0, false), (12346, 0, false)])[j]? = some u → (w.alloc (.cells #[.int .u64 12345, .int .u64 0, .bool false, .int .u64 12346, .int .u64 0, .bool false] 27)).cell? ((⟨w.heap.size, 0, none⟩ : Addr).add j) = some u) := Lib.hid (World.news_of_block (Blk.new w _ _))
  go_wp2_with (at_builtin; refine wpList_append_lies _ rfl (.tmp 13) (.tmp 16) 22 (by rfl) 0 27 i0 _ 3 24 Try.underlying22 hi hz0 hz1 hz2 rfl (by omega) (.slice none 0 0) 0 [] (by rfl) (World.ownsRow_nil _ _ _ _) ⟨w.heap.size, 0, none⟩ 2 2 (flat [(12345, 0, false), (12346, 0, false)]) (by rfl) HLE.out NW.out HFO.out (by omega) (by unfold maxLen; omega) (by omega) (Nat.zero_le _) (w.heap.size + 1) (by simp) ?_; intro g2 cap2 w2 hown hgr hat hlt2; have MT := Lib.hid (mark_tail0 hown hgr hat); obtain ⟨v9, hv9⟩ := MT.out.1; have f9 := MT.out.2.1; clear hown hgr hat)
  go_end0
  exact ⟨rfl, MT.out.2.2 _⟩
end Go.Proofs.Ytalhfjcopkmmlaa
