/-
  A point laid behind a chain: hull.laid.
-/
import Derived.Test.YtnccgpdniigekaaQHuTouch
namespace Go.Proofs.Ytnccgpdniigekaa
open Go.RowKit
set_option linter.unusedVariables false
set_option linter.unusedSimpArgs false

/-- A chain (oldest first) with a point laid behind. -/
def layL (b : Int) (p : Pt) (d : List Pt) : List Pt := (popR b p d.reverse).reverse ++ [p]
theorem take_rev {d : List Pt} {k : Nat} (h : k + 1 < d.length) : (d.take (k + 2)).reverse = d[k + 1] :: d[k] :: (d.take k).reverse := by
  rw [List.take_succ_eq_append_getElem h, List.take_succ_eq_append_getElem (show k < d.length by omega)]; simp
theorem take_rev1 {d : List Pt} {k : Nat} (h : k < d.length) : (d.take (k + 1)).reverse = d[k] :: (d.take k).reverse := by
  rw [List.take_succ_eq_append_getElem h]; simp
/-- What the loop of 'laid' keeps. -/
structure LS (W : World) (g cap : Nat) (d : List Pt) (p : Pt) (w : World) : Prop where
  row : Row w (.slice (some ⟨g, 0, none⟩) d.length cap) d
  pt : Blk w W.heap.size 139 #[.int .u64 p.1, .int .i64 p.2]
  bel : Below W.heap.size W w
section
variable {W w w' : World} {g cap : Nat} {d : List Pt} {p : Pt}
theorem LS.below (h : LS W g cap d p w) (k : Below w.heap.size w w') : LS W g cap d p w' := ⟨h.row.below k, h.pt.below k, below_next h.bel k⟩
theorem LS.drew (h : LS W g cap d p w) : LS W g cap d p w.drew := ⟨h.row.drew, h.pt.drew, h.bel.drew⟩
theorem LS.drewN (h : LS W g cap d p w) (n : Nat) : LS W g cap d p (w.drewN n) := ⟨h.row.drewN n, h.pt.drewN n, drewN_below h.bel n⟩
theorem LS.all (h : LS W g cap d p w) {i j : Nat} (hi : i < d.length) (hj : j < d.length) {ax ay qx qy : Int} (ha : d[i] = (ax, ay)) (hq : d[j] = (qx, qy)) : LS W g cap d p w ∧
    w.cell? ⟨W.heap.size, 0, none⟩ = some (.int .u64 p.1) ∧ w.cell? ⟨W.heap.size, 1, none⟩ = some (.int .i64 p.2) ∧
    w.cell? ⟨g, i * 2, none⟩ = some (.int .u64 ax) ∧ w.cell? ⟨g, i * 2 + 1, none⟩ = some (.int .i64 ay) ∧ w.cell? ⟨g, j * 2, none⟩ = some (.int .u64 qx) ∧ w.cell? ⟨g, j * 2 + 1, none⟩ = some (.int .i64 qy) := by
  have h1 := h.row.cells hi
  have h2 := h.row.cells hj
  rw [ha] at h1; rw [hq] at h2
  exact ⟨h, h.pt.cell 0, h.pt.cell 1, h1.1, h1.2, h2.1, h2.2⟩
end
/-- Where the loop stands: so many of the chain are left. -/
def LaidTo (W : World) (g cap : Nat) (d : List Pt) (b : Int) (p : Pt) (x : Value) (w : World) : Prop :=
  ∃ m : Nat, m ≤ d.length ∧ x = .slice (some ⟨g, 0, none⟩) m cap ∧ popR b p (d.take m).reverse = popR b p d.reverse ∧ LS W g cap d p w
theorem LS.last {W wr w2 : World} {g cap m g2 cap2 : Nat} {d : List Pt} {p : Pt} {b : Int} (h : LS W g cap d p wr) (hm : m ≤ d.length) (e : (d.take m).reverse = popR b p d.reverse) {o : Obj}
    (hown : w2.ownsRow 0 139 2 (.slice (some ⟨g2, 0, none⟩) (m + 1) cap2) (m + 1) (flat (d.take m) ++ pcells p)) (hgr : (wr.alloc o).grownBy w2 (Value.slice (some ⟨g, 0, none⟩) m cap).ownBlock)
    (hat : (Value.slice (some ⟨g, 0, none⟩) m cap).ownBlock = some g2 ∨ g2 = wr.heap.size + 1) :
    Row w2 (.slice (some ⟨g2, 0, none⟩) (m + 1) cap2) (layL b p d) ∧ Chg (fun k => k = g) W w2 ∧ (g2 = g ∨ W.heap.size ≤ g2) := by
  have hl : layL b p d = d.take m ++ [p] := by rw [layL, ← e, List.reverse_reverse]
  refine ⟨?_, ?_, ?_⟩
  · rw [hl]
    unfold Row
    have : (d.take m ++ [p]).length = m + 1 := by rw [List.length_append, List.length_take]; simp; omega
    rw [this, flat_append]; exact hown
  · have k1 : Chg (fun k => k = g) W wr := (Chg.of_below h.bel).mono (fun _ _ h => h.elim)
    exact (k1.alloc o).grown hgr (fun k hk _ => by simp only [Value.ownBlock, Option.some.injEq] at hk; exact hk.symm)
  · rcases hat with h' | h'
    · simp only [Value.ownBlock, Option.some.injEq] at h'; exact .inl h'.symm
    · have := h.bel.size; exact .inr (by omega)
/-- How long a slice is. -/
def lenV : Value → Nat
  | .slice _ n _ => n
  | _ => 0
theorem pcells_one (p : Pt) : ∀ u ∈ pcells p, u.oneCell' = true := by intro u hu; simp [pcells] at hu; rcases hu with rfl | rfl <;> rfl
theorem LS.own {W w : World} {g cap m : Nat} {d : List Pt} {p : Pt} (h : LS W g cap d p w) (hm : m ≤ d.length) (o : Obj) : (w.alloc o).ownsRow 0 139 2 (.slice (some ⟨g, 0, none⟩) m cap) m (flat (d.take m)) := by
  have h' : Row w (.slice (some ⟨g, 0, none⟩) m cap) (d.take m) := h.row.take hm
  have := own_chg h' ((Chg.refl (fun _ => False) w).alloc o) (fun _ _ h => h)
  rwa [List.length_take, Nat.min_eq_left hm] at this
theorem pcells_news {w : World} {g : Nat} {t : TypeId} {p : Pt} (h : Blk w g t #[.int .u64 p.1, .int .i64 p.2]) : ∀ j u, (pcells p)[j]? = some u → w.cell? ((⟨g, 0, none⟩ : Addr).add j) = some u := World.news_of_block h
set_option maxHeartbeats 4000000 in
set_option maxRecDepth 4000 in

theorem laid_any (g cap : Nat) (d : List Pt) (p : Pt) (side : Int) (hs : side = 0 ∨ side = 1) (hp : PtOk p) (hc : ∀ u ∈ d, PtOk u) (hx : d.Pairwise (fun u v => u.1 < v.1)) (hxp : ∀ u ∈ d, u.1 < p.1) (hlen : (d.length + 1) * 16 ≤ 140737488355328) (W : World)
    (R : Row W (.slice (some ⟨g, 0, none⟩) d.length cap) d) :
    Calls Try.prog 95 #[.slice (some ⟨g, 0, none⟩) d.length cap, .agg #[.int .u64 p.1, .int .i64 p.2], .int .i64 side] W fun e w' =>
      ∃ g2 n2 cap2, e = .returned (.slice (some ⟨g2, 0, none⟩) n2 cap2) ∧ Row w' (.slice (some ⟨g2, 0, none⟩) n2 cap2) (layL (sgn side) p d) ∧ Chg (fun k => k = g) W w' ∧ (g2 = g ∨ W.heap.size ≤ g2) := by
  obtain ⟨i0, hi, hz0, hz1, hz2⟩ := info_parts infoP
  have HT : ∀ (k : Nat) (hk : k + 1 < d.length) (w : World), Calls Try.prog 115 #[.agg #[.int .u64 (d[k]'(by omega)).1, .int .i64 (d[k]'(by omega)).2], .agg #[.int .u64 d[k + 1].1, .int .i64 d[k + 1].2], .agg #[.int .u64 p.1, .int .i64 p.2]] w fun e w' => e = .returned (.int .i64 (cmpI ((d[k + 1].2 - (d[k]'(by omega)).2) * (p.1 - (d[k]'(by omega)).1)) ((p.2 - (d[k]'(by omega)).2) * (d[k + 1].1 - (d[k]'(by omega)).1)))) ∧ Below w.heap.size w w' := fun k hk w => by
    have o1 := hc _ (List.getElem_mem (h := show k < d.length by omega))
    have o2 := hc _ (List.getElem_mem hk)
    have l1 := List.pairwise_iff_getElem.1 hx k (k + 1) (by omega) hk (by omega)
    have l2 := hxp _ (List.getElem_mem (h := show k < d.length by omega))
    exact turn_any _ _ _ _ _ _ o1.1 o2.1 hp.1 o1.2 o2.2 hp.2 (by omega) (by omega) w
  have BC := fun w => bend_any side hs w
  have hb := sgn_or side
  clear hs hx hxp hc
  go_enter Try.func95, Try.ntmps95
  go_wp2
  go_loopw [0] (fun x wr => LaidTo W g cap d (sgn side) p x wr) (fun x _ => lenV x)
  case atStart => exact ⟨d.length, Nat.le_refl _, rfl, by rw [List.take_length], ⟨R.below (below_new (Below.refl _ _) _), Blk.new _ _ _, below_new (Below.refl _ _) _⟩⟩
  case round =>
    obtain ⟨m, hm, rfl, hpop, L⟩ := hrel
    have hcap : m ≤ cap := by have := L.row.cur.2; obtain ⟨_, _, h, _⟩ := this; omega
    by_cases h2 : 2 ≤ m
    · obtain ⟨k, hmk⟩ : ∃ k, m = k + 2 := ⟨m - 2, by omega⟩
      obtain ⟨j, hjk⟩ : ∃ j, j = k + 1 := ⟨_, rfl⟩
      have hk : k + 1 < d.length := by omega
      have TC := HT k hk
      obtain ⟨ax, ay, ha⟩ : ∃ ax ay, d[k]'(by omega) = (ax, ay) := ⟨_, _, rfl⟩
      obtain ⟨qx, qy, hq⟩ : ∃ qx qy, d[k + 1] = (qx, qy) := ⟨_, _, rfl⟩
      have hr := take_rev hk
      rw [← hmk] at hr
      rw [ha, hq] at hr TC
      simp only [] at TC
      have hr1 := take_rev1 (show k < d.length by omega)
      rw [ha] at hr1
      have SG := cmpI_sign (sgn side) ((qy - ay) * (p.1 - ax)) ((p.2 - ay) * (qx - ax)) hb
      have hx := cmpI_range ((qy - ay) * (p.1 - ax)) ((p.2 - ay) * (qx - ax))
      have ST : turnV (ax, ay) (qx, qy) p = (qy - ay) * (p.1 - ax) - (p.2 - ay) * (qx - ax) := rfl
      rw [← ST] at SG
      generalize cmpI ((qy - ay) * (p.1 - ax)) ((p.2 - ay) * (qx - ax)) = X at *
      by_cases ht : 0 ≤ sgn side * turnV (ax, ay) (qx, qy) p
      · have hn : popR (sgn side) p (d.take (k + 1)).reverse = popR (sgn side) p d.reverse := by rw [← hpop, hr, popR_drop ht, hr1]
        rw [decide_eq_true ht] at SG
        have t0 : 0 ≤ X * sgn side := of_decide_eq_true SG
        clear ht SG
        have HN := Lib.hid hn
        clear hn
        have HL := Lib.hid L
        have e0 : (0 : Int) ≤ (m : Int) - 1 := by omega
        have e1 : (m : Int) - 1 < (m : Int) := by omega
        have e2 : ((m : Int) - 1).toNat = j := by omega
        have e3 : IntKind.i64.wrap ((m : Int) - 1) = (m : Int) - 1 := IntWalk.i64_in _ (by omega)
        have f0 : (0 : Int) ≤ (m : Int) - 2 := by omega
        have f1 : (m : Int) - 2 < (m : Int) := by omega
        have f2 : ((m : Int) - 2).toNat = k := by omega
        have f3 : IntKind.i64.wrap ((m : Int) - 2) = (m : Int) - 2 := IntWalk.i64_in _ (by omega)
        have g0 : decide ((1 : Int) < (m : Int)) = true := by simp; omega
        have h1m : (1 : Int) ≤ (m : Int) := by omega
        have h2m : (2 : Int) ≤ (m : Int) := by omega
        have n1 : m - 1 = j := by omega
        have n2 : m - 2 = k := by omega
        have hj : j < d.length := by omega
        have hq' : d[j] = (qx, qy) := by subst hjk; exact hq
        have a1 : IntKind.i64.wrap (X * sgn side) = X * sgn side := IntWalk.i64_in _ (by rcases hb with e | e <;> rw [e] <;> omega)
        have l1 : k < d.length := by omega
        have C0 : Hid (LS W g cap d p wr.drew) := Lib.hid L.drew
        have ha' : d[k]'l1 = (ax, ay) := ha
        have HMK := Lib.hid hmk
        have HJK := Lib.hid hjk
        have HHK := Lib.hid hk
        have HM := Lib.hid hm
        clear hpop L HT hp hx hb ST hr hr1 ha hmk hjk hq hk h2
        have hmlt : m ≤ 8796093022207 := by have := HM.out; omega
        go_wp2_with fail
        go_region_held3 (fun w' => LS W g cap d p w' ∧ w'.cell? ⟨W.heap.size, 0, none⟩ = some (.int .u64 p.1) ∧ w'.cell? ⟨W.heap.size, 1, none⟩ = some (.int .i64 p.2) ∧
          w'.cell? ⟨g, k * 2, none⟩ = some (.int .u64 ax) ∧ w'.cell? ⟨g, k * 2 + 1, none⟩ = some (.int .i64 ay) ∧ w'.cell? ⟨g, j * 2, none⟩ = some (.int .u64 qx) ∧ w'.cell? ⟨g, j * 2 + 1, none⟩ = some (.int .i64 qy))
          (first | assumption | exact LS.all C0.out l1 hj ha' hq' | exact LS.all (LS.below (‹LS _ _ _ _ _ _ ∧ _›).1 hb') l1 hj ha' hq')
          (first | (go_at_call 115; (with_reducible refine (TC _).mono ?_); rintro e w' ⟨rfl, hb'⟩) | (go_at_call 111; (with_reducible refine (BC _).mono ?_); rintro e w' ⟨rfl, rfl⟩))
        all_goals
          have K := Lib.hid (‹LS _ _ _ _ _ _ ∧ _›).1
          go_wp2_with fail
          go_roundw
          case rel => exact ⟨j, by omega, by go_num, by rw [HJK.out]; exact HN.out, K.out⟩
          case measure => simp only [lenV]; omega
      · have hn : (d.take m).reverse = popR (sgn side) p d.reverse := by rw [← hpop, hr, popR_stop ht]
        rw [decide_eq_false ht] at SG
        have t0 : ¬ 0 ≤ X * sgn side := of_decide_eq_false SG
        clear ht SG
        have HN := Lib.hid hn
        clear hn
        have HL := Lib.hid L
        have e0 : (0 : Int) ≤ (m : Int) - 1 := by omega
        have e1 : (m : Int) - 1 < (m : Int) := by omega
        have e2 : ((m : Int) - 1).toNat = j := by omega
        have e3 : IntKind.i64.wrap ((m : Int) - 1) = (m : Int) - 1 := IntWalk.i64_in _ (by omega)
        have f0 : (0 : Int) ≤ (m : Int) - 2 := by omega
        have f1 : (m : Int) - 2 < (m : Int) := by omega
        have f2 : ((m : Int) - 2).toNat = k := by omega
        have f3 : IntKind.i64.wrap ((m : Int) - 2) = (m : Int) - 2 := IntWalk.i64_in _ (by omega)
        have g0 : decide ((1 : Int) < (m : Int)) = true := by simp; omega
        have h1m : (1 : Int) ≤ (m : Int) := by omega
        have h2m : (2 : Int) ≤ (m : Int) := by omega
        have n1 : m - 1 = j := by omega
        have n2 : m - 2 = k := by omega
        have hj : j < d.length := by omega
        have hq' : d[j] = (qx, qy) := by subst hjk; exact hq
        have a1 : IntKind.i64.wrap (X * sgn side) = X * sgn side := IntWalk.i64_in _ (by rcases hb with e | e <;> rw [e] <;> omega)
        have l1 : k < d.length := by omega
        have C0 : Hid (LS W g cap d p wr.drew) := Lib.hid L.drew
        have ha' : d[k]'l1 = (ax, ay) := ha
        have HMK := Lib.hid hmk
        have HJK := Lib.hid hjk
        have HHK := Lib.hid hk
        have HM := Lib.hid hm
        clear hpop L HT hp hx hb ST hr hr1 ha hmk hjk hq hk h2
        have hmlt : m ≤ 8796093022207 := by have := HM.out; omega
        go_wp2_with fail
        go_region_held3 (fun w' => LS W g cap d p w' ∧ w'.cell? ⟨W.heap.size, 0, none⟩ = some (.int .u64 p.1) ∧ w'.cell? ⟨W.heap.size, 1, none⟩ = some (.int .i64 p.2) ∧
          w'.cell? ⟨g, k * 2, none⟩ = some (.int .u64 ax) ∧ w'.cell? ⟨g, k * 2 + 1, none⟩ = some (.int .i64 ay) ∧ w'.cell? ⟨g, j * 2, none⟩ = some (.int .u64 qx) ∧ w'.cell? ⟨g, j * 2 + 1, none⟩ = some (.int .i64 qy))
          (first | assumption | exact LS.all C0.out l1 hj ha' hq' | exact LS.all (LS.below (‹LS _ _ _ _ _ _ ∧ _›).1 hb') l1 hj ha' hq')
          (first | (go_at_call 115; (with_reducible refine (TC _).mono ?_); rintro e w' ⟨rfl, hb'⟩) | (go_at_call 111; (with_reducible refine (BC _).mono ?_); rintro e w' ⟨rfl, rfl⟩))
        all_goals
          have K := Lib.hid (‹LS _ _ _ _ _ _ ∧ _›).1
          have t1 : decide (0 ≤ X * sgn side) = false := by simp; omega
          have HO := Lib.hid (K.out.own HM.out (.cells #[.int .u64 p.1, .int .i64 p.2] 139))
          have HLE := Lib.hid (show (pcells p).length = 1 * 2 from rfl)
          have HFO := Lib.hid (pcells_one p)
          have c0 : w'.cell? ⟨W.heap.size, 0, none⟩ = some (.int .u64 p.1) := K.out.pt.cell 0
          have c1 : w'.cell? ⟨W.heap.size, 1, none⟩ = some (.int .i64 p.2) := K.out.pt.cell 1
          clear hlen R BC TC a1 e0 e1 e2 e3 f0 f1 f2 f3 n1 n2 ha' hq'
          go_wp2_with (at_builtin; go_loud (refine wpList_append_lies _ rfl (.tmp 35) (.tmp 37) 134 (by rfl) 0 139 i0 _ 2 16 Try.underlying134 hi hz0 hz1 hz2 rfl (by omega) (.slice (some ⟨g, 0, none⟩) m cap) m (flat (d.take m)) (by rfl) HO.out ⟨w'.heap.size, 0, none⟩ 1 1 (pcells p) (by rfl) HLE.out (pcells_news (Blk.new _ _ _)) HFO.out (by omega) (by unfold maxLen; omega) (by omega) (Nat.zero_le _) (w'.heap.size + 1) (by simp) ?_); intro g2 cap2 w2 hown hgr hat hlt2; have ML := Lib.hid (K.out.last HM.out HN.out hown hgr hat); clear hown hgr hat)
          go_ret
          exact ⟨_, _, _, rfl, ML.out⟩
    · have hn : (d.take m).reverse = popR (sgn side) p d.reverse := by rw [← hpop, popR_short (by rw [List.length_reverse, List.length_take]; omega)]
      have g0 : decide ((1 : Int) < (m : Int)) = false := by simp; omega
      have HN := Lib.hid hn
      have HL := Lib.hid L
      have HLE := Lib.hid (show (pcells p).length = 1 * 2 from rfl)
      have HFO := Lib.hid (pcells_one p)
      have c0 : wr.cell? ⟨W.heap.size, 0, none⟩ = some (.int .u64 p.1) := L.pt.cell 0
      have c1 : wr.cell? ⟨W.heap.size, 1, none⟩ = some (.int .i64 p.2) := L.pt.cell 1
      clear hn hpop L HT hp BC
      go_wp2_with fail
      go_quiet (fail)
      have HO := Lib.hid ((HL.out.drewN nq).own hm (.cells #[.int .u64 p.1, .int .i64 p.2] 139))
      go_wp2_with (at_builtin; go_loud (refine wpList_append_lies _ rfl (.tmp 35) (.tmp 37) 134 (by rfl) 0 139 i0 _ 2 16 Try.underlying134 hi hz0 hz1 hz2 rfl (by omega) (.slice (some ⟨g, 0, none⟩) m cap) m (flat (d.take m)) (by rfl) HO.out ⟨wr.heap.size, 0, none⟩ 1 1 (pcells p) (by rfl) HLE.out (pcells_news (Blk.new _ _ _)) HFO.out (by omega) (by unfold maxLen; omega) (by omega) (Nat.zero_le _) (wr.heap.size + 1) (by simp) ?_); intro g2 cap2 w2 hown hgr hat hlt2; have ML := Lib.hid ((HL.out.drewN nq).last hm HN.out hown hgr hat); clear hown hgr hat)
      go_ret
      exact ⟨_, _, _, rfl, ML.out⟩
end Go.Proofs.Ytnccgpdniigekaa
/-
  A point laid behind a chain, or behind none.
-/
namespace Go.Proofs.Ytnccgpdniigekaa
open Go.RowKit
set_option linter.unusedVariables false
set_option linter.unusedSimpArgs false

theorem laid0_last {W w1 w2 : World} {g2 cap2 : Nat} {p : Pt} {b : Int} (hb : Below W.heap.size W w1) {o : Obj} (hown : w2.ownsRow 0 139 2 (.slice (some ⟨g2, 0, none⟩) (0 + 1) cap2) (0 + 1) ([] ++ pcells p)) (hgr : (w1.alloc o).grownBy w2 (Value.slice none 0 0).ownBlock)
    (hat : (Value.slice none 0 0).ownBlock = some g2 ∨ g2 = w1.heap.size + 1) :
    Row w2 (.slice (some ⟨g2, 0, none⟩) 1 cap2) (layL b p []) ∧ Chg (fun _ => False) W w2 ∧ W.heap.size ≤ g2 := by
  have hl : layL b p [] = [p] := rfl
  refine ⟨?_, ?_, ?_⟩
  · rw [hl]; exact hown
  · exact ((Chg.of_below hb).alloc o).grown hgr (fun k hk _ => by simp [Value.ownBlock] at hk)
  · rcases hat with h | h
    · simp [Value.ownBlock] at h
    · have := hb.size; omega
set_option maxHeartbeats 2000000 in
set_option maxRecDepth 4000 in
theorem laid_nil (p : Pt) (side : Int) (W : World) :
    Calls Try.prog 95 #[.slice none 0 0, .agg #[.int .u64 p.1, .int .i64 p.2], .int .i64 side] W fun e w' =>
      ∃ g2 n2 cap2, e = .returned (.slice (some ⟨g2, 0, none⟩) n2 cap2) ∧ Row w' (.slice (some ⟨g2, 0, none⟩) n2 cap2) (layL (sgn side) p []) ∧ Chg (fun _ => False) W w' ∧ W.heap.size ≤ g2 := by
  obtain ⟨i0, hi, hz0, hz1, hz2⟩ := info_parts infoP
  have HB : ∀ n, Hid (Below W.heap.size W ((W.alloc (.cells #[.int .u64 p.1, .int .i64 p.2] 139)).drewN n)) := fun n => Lib.hid (drewN_below (below_new (Below.refl _ _) _) n)
  go_enter Try.func95, Try.ntmps95
  go_wp2
  refine wp_loop_rounds 1 ?_
  rw [rounds_succ]
  go_wp2_with fail
  go_quiet (fail)
  have HLE := Lib.hid (show (pcells p).length = 1 * 2 from rfl)
  have HFO := Lib.hid (pcells_one p)
  have c0 : ((W.alloc (.cells #[.int .u64 p.1, .int .i64 p.2] 139)).drewN nq).cell? ⟨W.heap.size, 0, none⟩ = some (.int .u64 p.1) := ((Blk.new W 139 _).drewN nq).cell 0
  have c1 : ((W.alloc (.cells #[.int .u64 p.1, .int .i64 p.2] 139)).drewN nq).cell? ⟨W.heap.size, 1, none⟩ = some (.int .i64 p.2) := ((Blk.new W 139 _).drewN nq).cell 1
  go_wp2_with (at_builtin; go_loud (refine wpList_append_lies _ rfl (.tmp 35) (.tmp 37) 134 (by rfl) 0 139 i0 _ 2 16 Try.underlying134 hi hz0 hz1 hz2 rfl (by omega) (.slice none 0 0) 0 [] (by rfl) (World.ownsRow_nil _ _ _ _) ⟨W.heap.size + 1, 0, none⟩ 1 1 (pcells p) (by rfl) HLE.out (pcells_news (Blk.new' _ _ (by simp))) HFO.out (by omega) (by unfold maxLen; omega) (by omega) (Nat.zero_le _) (W.heap.size + 2) (by simp) ?_); intro g2 cap2 w2 hown hgr hat hlt2; have ML := Lib.hid (laid0_last (b := sgn side) (HB nq).out hown hgr (hat.imp id (fun h => h.trans (by simp)))); clear hown hgr hat)
  go_ret
  exact ⟨_, _, _, rfl, ML.out⟩
theorem laid_row (v : Value) (d : List Pt) (p : Pt) (side : Int) (hs : side = 0 ∨ side = 1) (hp : PtOk p) (hc : ∀ u ∈ d, PtOk u) (hx : d.Pairwise (fun u v => u.1 < v.1)) (hxp : ∀ u ∈ d, u.1 < p.1) (hlen : (d.length + 1) * 16 ≤ 140737488355328) (W : World) (R : Row W v d) :
    Calls Try.prog 95 #[v, .agg #[.int .u64 p.1, .int .i64 p.2], .int .i64 side] W fun e w' =>
      ∃ v', e = .returned v' ∧ Row w' v' (layL (sgn side) p d) ∧ Chg (fun k => v.ownBlock = some k) W w' ∧ (∀ g, v'.ownBlock = some g → v.ownBlock = some g ∨ W.heap.size ≤ g) := by
  rcases R.form with ⟨rfl, rfl⟩ | ⟨g, cap, rfl, _, _, _⟩
  · refine (laid_nil p side W).mono ?_
    rintro e w' ⟨g2, n2, cap2, rfl, r, c, h⟩
    exact ⟨_, rfl, r, c.mono (fun _ _ h => h.elim), fun g hg => by simp only [Value.ownBlock, Option.some.injEq] at hg; exact .inr (by omega)⟩
  · refine (laid_any g cap d p side hs hp hc hx hxp hlen W R).mono ?_
    rintro e w' ⟨g2, n2, cap2, rfl, r, c, h⟩
    refine ⟨_, rfl, r, c.mono (fun i _ h => by simp [Value.ownBlock, h]), fun g' hg => ?_⟩
    simp only [Value.ownBlock, Option.some.injEq] at hg
    subst hg
    rcases h with h | h
    · exact .inl (by simp [Value.ownBlock, h])
    · exact .inr h
end Go.Proofs.Ytnccgpdniigekaa
