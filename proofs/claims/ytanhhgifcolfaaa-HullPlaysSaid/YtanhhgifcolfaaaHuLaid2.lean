/-
  A point laid behind a chain, or behind none.
-/
import Derived.Test.YtanhhgifcolfaaaHuLaid
namespace Go.Proofs.Ytanhhgifcolfaaa
open Go.RowKit
set_option linter.unusedVariables false
set_option linter.unusedSimpArgs false

theorem laid0_last {W w1 w2 : World} {g2 cap2 : Nat} {p : Pt} {b : Int} (hb : Below W.heap.size W w1) {o : Obj} (hown : w2.ownsRow 0 70 2 (.slice (some ⟨g2, 0, none⟩) (0 + 1) cap2) (0 + 1) ([] ++ pcells p)) (hgr : (w1.alloc o).grownBy w2 (Value.slice none 0 0).ownBlock)
    (hat : (Value.slice none 0 0).ownBlock = some g2 ∨ g2 = w1.heap.size + 1) :
    Row w2 (.slice (some ⟨g2, 0, none⟩) 1 cap2) (layL b p []) ∧ Chg (fun _ => False) W w2 ∧ W.heap.size ≤ g2 := by
  have hl : layL b p [] = [p] := rfl
  refine ⟨?_, ?_, ?_⟩
  · rw [hl]; exact hown
  · exact ((Chg.of_below hb).alloc o).grown hgr (fun k hk _ => by simp [Value.ownBlock] at hk)
  · rcases hat with h | h
    · simp [Value.ownBlock] at h
    · have := hb.size; omega
set_option maxHeartbeats 2000000 in
set_option maxRecDepth 4000 in
theorem laid_nil (p : Pt) (side : Int) (W : World) :
    Calls Try.prog 38 #[.slice none 0 0, .agg #[.int .u64 p.1, .int .i64 p.2], .int .i64 side] W fun e w' =>
      ∃ g2 n2 cap2, e = .returned (.slice (some ⟨g2, 0, none⟩) n2 cap2) ∧ Row w' (.slice (some ⟨g2, 0, none⟩) n2 cap2) (layL (sgn side) p []) ∧ Chg (fun _ => False) W w' ∧ W.heap.size ≤ g2 := by
  obtain ⟨i0, hi, hz0, hz1, hz2⟩ := info_parts infoP
  have HB : ∀ n, Hid (Below W.heap.size W ((W.alloc (.cells #[.int .u64 p.1, .int .i64 p.2] 70)).drewN n)) := fun n => Lib.hid (drewN_below (below_new (Below.refl _ _) _) n)
  go_enter Try.func38, Try.ntmps38
  go_wp2
  refine wp_loop_rounds 1 ?_
  rw [rounds_succ]
  go_wp2_with fail
  go_quiet (fail)
  have HLE := Lib.hid (show (pcells p).length = 1 * 2 from rfl)
  have HFO := Lib.hid (pcells_one p)
  have c0 : ((W.alloc (.cells #[.int .u64 p.1, .int .i64 p.2] 70)).drewN nq).cell? ⟨W.heap.size, 0, none⟩ = some (.int .u64 p.1) := ((Blk.new W 70 _).drewN nq).cell 0
  have c1 : ((W.alloc (.cells #[.int .u64 p.1, .int .i64 p.2] 70)).drewN nq).cell? ⟨W.heap.size, 1, none⟩ = some (.int .i64 p.2) := ((Blk.new W 70 _).drewN nq).cell 1
  go_wp2_with (at_builtin; go_loud (refine wpList_append_lies _ rfl (.tmp 35) (.tmp 37) 65 (by rfl) 0 70 i0 _ 2 16 Try.underlying65 hi hz0 hz1 hz2 rfl (by omega) (.slice none 0 0) 0 [] (by rfl) (World.ownsRow_nil _ _ _ _) ⟨W.heap.size + 1, 0, none⟩ 1 1 (pcells p) (by rfl) HLE.out (pcells_news (Blk.new' _ _ (by simp))) HFO.out (by omega) (by unfold maxLen; omega) (by omega) (Nat.zero_le _) (W.heap.size + 2) (by simp) ?_); intro g2 cap2 w2 hown hgr hat hlt2; have ML := Lib.hid (laid0_last (b := sgn side) (HB nq).out hown hgr (hat.imp id (fun h => h.trans (by simp)))); clear hown hgr hat)
  go_ret
  exact ⟨_, _, _, rfl, ML.out⟩
theorem laid_row (v : Value) (d : List Pt) (p : Pt) (side : Int) (hs : side = 0 ∨ side = 1) (hp : PtOk p) (hc : ∀ u ∈ d, PtOk u) (hx : d.Pairwise (fun u v => u.1 < v.1)) (hxp : ∀ u ∈ d, u.1 < p.1) (hlen : (d.length + 1) * 16 ≤ 140737488355328) (W : World) (R : Row W v d) :
    Calls Try.prog 38 #[v, .agg #[.int .u64 p.1, .int .i64 p.2], .int .i64 side] W fun e w' =>
      ∃ v', e = .returned v' ∧ Row w' v' (layL (sgn side) p d) ∧ Chg (fun k => v.ownBlock = some k) W w' ∧ (∀ g, v'.ownBlock = some g → v.ownBlock = some g ∨ W.heap.size ≤ g) := by
  rcases R.form with ⟨rfl, rfl⟩ | ⟨g, cap, rfl, _, _, _⟩
  · refine (laid_nil p side W).mono ?_
    rintro e w' ⟨g2, n2, cap2, rfl, r, c, h⟩
    exact ⟨_, rfl, r, c.mono (fun _ _ h => h.elim), fun g hg => by simp only [Value.ownBlock, Option.some.injEq] at hg; exact .inr (by omega)⟩
  · refine (laid_any g cap d p side hs hp hc hx hxp hlen W R).mono ?_
    rintro e w' ⟨g2, n2, cap2, rfl, r, c, h⟩
    refine ⟨_, rfl, r, c.mono (fun i _ h => by simp [Value.ownBlock, h]), fun g' hg => ?_⟩
    simp only [Value.ownBlock, Option.some.injEq] at hg
    subst hg
    rcases h with h | h
    · exact .inl (by simp [Value.ownBlock, h])
    · exact .inr h
end Go.Proofs.Ytanhhgifcolfaaa
