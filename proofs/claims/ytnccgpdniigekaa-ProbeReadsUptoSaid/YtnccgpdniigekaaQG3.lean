/-
  A point laid behind a chain: hull.laid.
-/
import Derived.Test.YtnccgpdniigekaaQG30
import Derived.Test.YtnccgpdniigekaaQG0
namespace Go.Proofs.Ytnccgpdniigekaa
open Go.RowKit
set_option linter.unusedVariables false
set_option linter.unusedSimpArgs false

/-- A chain (oldest first) with a point laid behind. -/
def layL (b : Int) (p : Pt) (d : List Pt) : List Pt := (popR b p d.reverse).reverse ++ [p]
theorem take_rev {d : List Pt} {k : Nat} (h : k + 1 < d.length) : (d.take (k + 2)).reverse = d[k + 1] :: d[k] :: (d.take k).reverse := by
  rw [List.take_succ_eq_append_getElem h, List.take_succ_eq_append_getElem (show k < d.length by omega)]; simp
theorem take_rev1 {d : List Pt} {k : Nat} (h : k < d.length) : (d.take (k + 1)).reverse = d[k] :: (d.take k).reverse := by
  rw [List.take_succ_eq_append_getElem h]; simp
/-- What the loop of 'laid' keeps. -/
structure LS (W : World) (g cap : Nat) (d : List Pt) (p : Pt) (w : World) : Prop where
  row : Row w (.slice (some ⟨g, 0, none⟩) d.length cap) d
  pt : Blk w W.heap.size 139 #[.int .u64 p.1, .int .i64 p.2]
  bel : Below W.heap.size W w
section
variable {W w w' : World} {g cap : Nat} {d : List Pt} {p : Pt}
theorem LS.below (h : LS W g cap d p w) (k : Below w.heap.size w w') : LS W g cap d p w' := ⟨h.row.below k, h.pt.below k, below_next h.bel k⟩
theorem LS.drew (h : LS W g cap d p w) : LS W g cap d p w.drew := ⟨h.row.drew, h.pt.drew, h.bel.drew⟩
theorem LS.drewN (h : LS W g cap d p w) (n : Nat) : LS W g cap d p (w.drewN n) := ⟨h.row.drewN n, h.pt.drewN n, drewN_below h.bel n⟩
theorem LS.all (h : LS W g cap d p w) {i j : Nat} (hi : i < d.length) (hj : j < d.length) {ax ay qx qy : Int} (ha : d[i] = (ax, ay)) (hq : d[j] = (qx, qy)) : LS W g cap d p w ∧
    w.cell? ⟨W.heap.size, 0, none⟩ = some (.int .u64 p.1) ∧ w.cell? ⟨W.heap.size, 1, none⟩ = some (.int .i64 p.2) ∧
    w.cell? ⟨g, i * 2, none⟩ = some (.int .u64 ax) ∧ w.cell? ⟨g, i * 2 + 1, none⟩ = some (.int .i64 ay) ∧ w.cell? ⟨g, j * 2, none⟩ = some (.int .u64 qx) ∧ w.cell? ⟨g, j * 2 + 1, none⟩ = some (.int .i64 qy) := by
  have h1 := h.row.cells hi
  have h2 := h.row.cells hj
  rw [ha] at h1; rw [hq] at h2
  exact ⟨h, h.pt.cell 0, h.pt.cell 1, h1.1, h1.2, h2.1, h2.2⟩
end
/-- Where the loop stands: so many of the chain are left. -/
def LaidTo (W : World) (g cap : Nat) (d : List Pt) (b : Int) (p : Pt) (x : Value) (w : World) : Prop :=
  ∃ m : Nat, m ≤ d.length ∧ x = .slice (some ⟨g, 0, none⟩) m cap ∧ popR b p (d.take m).reverse = popR b p d.reverse ∧ LS W g cap d p w
theorem LS.last {W wr w2 : World} {g cap m g2 cap2 : Nat} {d : List Pt} {p : Pt} {b : Int} (h : LS W g cap d p wr) (hm : m ≤ d.length) (e : (d.take m).reverse = popR b p d.reverse) {o : Obj}
    (hown : w2.ownsRow 0 139 2 (.slice (some ⟨g2, 0, none⟩) (m + 1) cap2) (m + 1) (flat (d.take m) ++ pcells p)) (hgr : (wr.alloc o).grownBy w2 (Value.slice (some ⟨g, 0, none⟩) m cap).ownBlock)
    (hat : (Value.slice (some ⟨g, 0, none⟩) m cap).ownBlock = some g2 ∨ g2 = wr.heap.size + 1) :
    Row w2 (.slice (some ⟨g2, 0, none⟩) (m + 1) cap2) (layL b p d) ∧ Chg (fun k => k = g) W w2 ∧ (g2 = g ∨ W.heap.size ≤ g2) := by
  have hl : layL b p d = d.take m ++ [p] := by rw [layL, ← e, List.reverse_reverse]
  refine ⟨?_, ?_, ?_⟩
  · rw [hl]
    unfold Row
    have : (d.take m ++ [p]).length = m + 1 := by rw [List.length_append, List.length_take]; simp; omega
    rw [this, flat_append]; exact hown
  · have k1 : Chg (fun k => k = g) W wr := (Chg.of_below h.bel).mono (fun _ _ h => h.elim)
    exact (k1.alloc o).grown hgr (fun k hk _ => by simp only [Value.ownBlock, Option.some.injEq] at hk; exact hk.symm)
  · rcases hat with h' | h'
    · simp only [Value.ownBlock, Option.some.injEq] at h'; exact .inl h'.symm
    · have := h.bel.size; exact .inr (by omega)
/-- How long a slice is. -/
def lenV : Value → Nat
  | .slice _ n _ => n
  | _ => 0
theorem pcells_one (p : Pt) : ∀ u ∈ pcells p, u.oneCell' = true := by intro u hu; simp [pcells] at hu; rcases hu with rfl | rfl <;> rfl
theorem LS.own {W w : World} {g cap m : Nat} {d : List Pt} {p : Pt} (h : LS W g cap d p w) (hm : m ≤ d.length) (o : Obj) : (w.alloc o).ownsRow 0 139 2 (.slice (some ⟨g, 0, none⟩) m cap) m (flat (d.take m)) := by
  have h' : Row w (.slice (some ⟨g, 0, none⟩) m cap) (d.take m) := h.row.take hm
  have := own_chg h' ((Chg.refl (fun _ => False) w).alloc o) (fun _ _ h => h)
  rwa [List.length_take, Nat.min_eq_left hm] at this
theorem pcells_news {w : World} {g : Nat} {t : TypeId} {p : Pt} (h : Blk w g t #[.int .u64 p.1, .int .i64 p.2]) : ∀ j u, (pcells p)[j]? = some u → w.cell? ((⟨g, 0, none⟩ : Addr).add j) = some u := World.news_of_block h
set_option maxHeartbeats 4000000 in
set_option maxRecDepth 4000 in

theorem laid_any (g cap : Nat) (d : List Pt) (p : Pt) (side : Int) (hs : side = 0 ∨ side = 1) (hp : PtOk p) (hc : ∀ u ∈ d, PtOk u) (hx : d.Pairwise (fun u v => u.1 < v.1)) (hxp : ∀ u ∈ d, u.1 < p.1) (hlen : (d.length + 1) * 16 ≤ 140737488355328) (W : World)
    (R : Row W (.slice (some ⟨g, 0, none⟩) d.length cap) d) :
    Calls Try.prog 95 #[.slice (some ⟨g, 0, none⟩) d.length cap, .agg #[.int .u64 p.1, .int .i64 p.2], .int .i64 side] W fun e w' =>
      ∃ g2 n2 cap2, e = .returned (.slice (some ⟨g2, 0, none⟩) n2 cap2) ∧ Row w' (.slice (some ⟨g2, 0, none⟩) n2 cap2) (layL (sgn side) p d) ∧ Chg (fun k => k = g) W w' ∧ (g2 = g ∨ W.heap.size ≤ g2) := by
  obtain ⟨i0, hi, hz0, hz1, hz2⟩ := info_parts infoP
  have HT : ∀ (k : Nat) (hk : k + 1 < d.length) (w : World), Calls Try.prog 115 #[.agg #[.int .u64 (d[k]'(by omega)).1, .int .i64 (d[k]'(by omega)).2], .agg #[.int .u64 d[k + 1].1, .int .i64 d[k + 1].2], .agg #[.int .u64 p.1, .int .i64 p.2]] w fun e w' => e = .returned (.int .i64 (cmpI ((d[k + 1].2 - (d[k]'(by omega)).2) * (p.1 - (d[k]'(by omega)).1)) ((p.2 - (d[k]'(by omega)).2) * (d[k + 1].1 - (d[k]'(by omega)).1)))) ∧ Below w.heap.size w w' := fun k hk w => by
    have o1 := hc _ (List.getElem_mem (h := show k < d.length by omega))
    have o2 := hc _ (List.getElem_mem hk)
    have l1 := List.pairwise_iff_getElem.1 hx k (k + 1) (by omega) hk (by omega)
    have l2 := hxp _ (List.getElem_mem (h := show k < d.length by omega))
    exact turn_any _ _ _ _ _ _ o1.1 o2.1 hp.1 o1.2 o2.2 hp.2 (by omega) (by omega) w
  have BC := fun w => bend_any side hs w
  have hb := sgn_or side
  clear hs hx hxp hc
  go_enter Try.func95, Try.ntmps95
  go_wp2
  go_loopw [0] (fun x wr => LaidTo W g cap d (sgn side) p x wr) (fun x _ => lenV x)
  case atStart => exact ⟨d.length, Nat.le_refl _, rfl, by rw [List.take_length], ⟨R.below (below_new (Below.refl _ _) _), Blk.new _ _ _, below_new (Below.refl _ _) _⟩⟩
  case round =>
    obtain ⟨m, hm, rfl, hpop, L⟩ := hrel
    have hcap : m ≤ cap := by have := L.row.cur.2; obtain ⟨_, _, h, _⟩ := this; omega
    by_cases h2 : 2 ≤ m
    · obtain ⟨k, hmk⟩ : ∃ k, m = k + 2 := ⟨m - 2, by omega⟩
      obtain ⟨j, hjk⟩ : ∃ j, j = k + 1 := ⟨_, rfl⟩
      have hk : k + 1 < d.length := by omega
      have TC := HT k hk
      obtain ⟨ax, ay, ha⟩ : ∃ ax ay, d[k]'(by omega) = (ax, ay) := ⟨_, _, rfl⟩
      obtain ⟨qx, qy, hq⟩ : ∃ qx qy, d[k + 1] = (qx, qy) := ⟨_, _, rfl⟩
      have hr := take_rev hk
      rw [← hmk] at hr
      rw [ha, hq] at hr TC
      simp only [] at TC
      have hr1 := take_rev1 (show k < d.length by omega)
      rw [ha] at hr1
      have SG := cmpI_sign (sgn side) ((qy - ay) * (p.1 - ax)) ((p.2 - ay) * (qx - ax)) hb
      have hx := cmpI_range ((qy - ay) * (p.1 - ax)) ((p.2 - ay) * (qx - ax))
      have ST : turnV (ax, ay) (qx, qy) p = (qy - ay) * (p.1 - ax) - (p.2 - ay) * (qx - ax) := rfl
      rw [← ST] at SG
      generalize cmpI ((qy - ay) * (p.1 - ax)) ((p.2 - ay) * (qx - ax)) = X at *
      by_cases ht : 0 ≤ sgn side * turnV (ax, ay) (qx, qy) p
      · have hn : popR (sgn side) p (d.take (k + 1)).reverse = popR (sgn side) p d.reverse := by rw [← hpop, hr, popR_drop ht, hr1]
        rw [decide_eq_true ht] at SG
        have t0 : 0 ≤ X * sgn side := of_decide_eq_true SG
        clear ht SG
        have HN := Lib.hid hn
        clear hn
        have HL := Lib.hid L
        have e0 : (0 : Int) ≤ (m : Int) - 1 := by omega
        have e1 : (m : Int) - 1 < (m : Int) := by omega
        have e2 : ((m : Int) - 1).toNat = j := by omega
        have e3 : IntKind.i64.wrap ((m : Int) - 1) = (m : Int) - 1 := IntWalk.i64_in _ (by omega)
        have f0 : (0 : Int) ≤ (m : Int) - 2 := by omega
        have f1 : (m : Int) - 2 < (m : Int) := by omega
        have f2 : ((m : Int) - 2).toNat = k := by omega
        have f3 : IntKind.i64.wrap ((m : Int) - 2) = (m : Int) - 2 := IntWalk.i64_in _ (by omega)
        have g0 : decide ((1 : Int) < (m : Int)) = true := by simp; omega
        have h1m : (1 : Int) ≤ (m : Int) := by omega
        have h2m : (2 : Int) ≤ (m : Int) := by omega
        have n1 : m - 1 = j := by omega
        have n2 : m - 2 = k := by omega
        have hj : j < d.length := by omega
        have hq' : d[j] = (qx, qy) := by subst hjk; exact hq
        have a1 : IntKind.i64.wrap (X * sgn side) = X * sgn side := IntWalk.i64_in _ (by rcases hb with e | e <;> rw [e] <;> omega)
        have l1 : k < d.length := by omega
        have C0 : Hid (LS W g cap d p wr.drew) := Lib.hid L.drew
        have ha' : d[k]'l1 = (ax, ay) := ha
        have HMK := Lib.hid hmk
        have HJK := Lib.hid hjk
        have HHK := Lib.hid hk
        have HM := Lib.hid hm
        clear hpop L HT hp hx hb ST hr hr1 ha hmk hjk hq hk h2
        have hmlt : m ≤ 8796093022207 := by have := HM.out; omega
        go_wp2_with fail
        go_region_held3 (fun w' => LS W g cap d p w' ∧ w'.cell? ⟨W.heap.size, 0, none⟩ = some (.int .u64 p.1) ∧ w'.cell? ⟨W.heap.size, 1, none⟩ = some (.int .i64 p.2) ∧
          w'.cell? ⟨g, k * 2, none⟩ = some (.int .u64 ax) ∧ w'.cell? ⟨g, k * 2 + 1, none⟩ = some (.int .i64 ay) ∧ w'.cell? ⟨g, j * 2, none⟩ = some (.int .u64 qx) ∧ w'.cell? ⟨g, j * 2 + 1, none⟩ = some (.int .i64 qy))
          (first | assumption | exact LS.all C0.out l1 hj ha' hq' | exact LS.all (LS.below (‹LS _ _ _ _ _ _ ∧ _›).1 hb') l1 hj ha' hq')
          (first | (go_at_call 115; (with_reducible refine (TC _).mono ?_); rintro e w' ⟨rfl, hb'⟩) | (go_at_call 111; (with_reducible refine (BC _).mono ?_); rintro e w' ⟨rfl, rfl⟩))
        all_goals
          have K := Lib.hid (‹LS _ _ _ _ _ _ ∧ _›).1
          go_wp2_with fail
          go_roundw
          case rel => exact ⟨j, by omega, by go_num, by rw [HJK.out]; exact HN.out, K.out⟩
          case measure => simp only [lenV]; omega
      · have hn : (d.take m).reverse = popR (sgn side) p d.reverse := by rw [← hpop, hr, popR_stop ht]
        rw [decide_eq_false ht] at SG
        have t0 : ¬ 0 ≤ X * sgn side := of_decide_eq_false SG
        clear ht SG
        have HN := Lib.hid hn
        clear hn
        have HL := Lib.hid L
        have e0 : (0 : Int) ≤ (m : Int) - 1 := by omega
        have e1 : (m : Int) - 1 < (m : Int) := by omega
        have e2 : ((m : Int) - 1).toNat = j := by omega
        have e3 : IntKind.i64.wrap ((m : Int) - 1) = (m : Int) - 1 := IntWalk.i64_in _ (by omega)
        have f0 : (0 : Int) ≤ (m : Int) - 2 := by omega
        have f1 : (m : Int) - 2 < (m : Int) := by omega
        have f2 : ((m : Int) - 2).toNat = k := by omega
        have f3 : IntKind.i64.wrap ((m : Int) - 2) = (m : Int) - 2 := IntWalk.i64_in _ (by omega)
        have g0 : decide ((1 : Int) < (m : Int)) = true := by simp; omega
        have h1m : (1 : Int) ≤ (m : Int) := by omega
        have h2m : (2 : Int) ≤ (m : Int) := by omega
        have n1 : m - 1 = j := by omega
        have n2 : m - 2 = k := by omega
        have hj : j < d.length := by omega
        have hq' : d[j] = (qx, qy) := by subst hjk; exact hq
        have a1 : IntKind.i64.wrap (X * sgn side) = X * sgn side := IntWalk.i64_in _ (by rcases hb with e | e <;> rw [e] <;> omega)
        have l1 : k < d.length := by omega
        have C0 : Hid (LS W g cap d p wr.drew) := Lib.hid L.drew
        have ha' : d[k]'l1 = (ax, ay) := ha
        have HMK := Lib.hid hmk
        have HJK := Lib.hid hjk
        have HHK := Lib.hid hk
        have HM := Lib.hid hm
        clear hpop L HT hp hx hb ST hr hr1 ha hmk hjk hq hk h2
        have hmlt : m ≤ 8796093022207 := by have := HM.out; omega
        go_wp2_with fail
        go_region_held3 (fun w' => LS W g cap d p w' ∧ w'.cell? ⟨W.heap.size, 0, none⟩ = some (.int .u64 p.1) ∧ w'.cell? ⟨W.heap.size, 1, none⟩ = some (.int .i64 p.2) ∧
          w'.cell? ⟨g, k * 2, none⟩ = some (.int .u64 ax) ∧ w'.cell? ⟨g, k * 2 + 1, none⟩ = some (.int .i64 ay) ∧ w'.cell? ⟨g, j * 2, none⟩ = some (.int .u64 qx) ∧ w'.cell? ⟨g, j * 2 + 1, none⟩ = some (.int .i64 qy))
          (first | assumption | exact LS.all C0.out l1 hj ha' hq' | exact LS.all (LS.below (‹LS _ _ _ _ _ _ ∧ _›).1 hb') l1 hj ha' hq')
          (first | (go_at_call 115; (with_reducible refine (TC _).mono ?_); rintro e w' ⟨rfl, hb'⟩) | (go_at_call 111; (with_reducible refine (BC _).mono ?_); rintro e w' ⟨rfl, rfl⟩))
        all_goals
          have K := Lib.hid (‹LS _ _ _ _ _ _ ∧ _›).1
          have t1 : decide (0 ≤ X * sgn side) = false := by simp; omega
          have HO := Lib.hid (K.out.own HM.out (.cells #[.int .u64 p.1, .int .i64 p.2] 139))
          have HLE := Lib.hid (show (pcells p).length = 1 * 2 from rfl)
          have HFO := Lib.hid (pcells_one p)
          have c0 : w'.cell? ⟨W.heap.size, 0, none⟩ = some (.int .u64 p.1) := K.out.pt.cell 0
          have c1 : w'.cell? ⟨W.heap.size, 1, none⟩ = some (.int .i64 p.2) := K.out.pt.cell 1
          clear hlen R BC TC a1 e0 e1 e2 e3 f0 f1 f2 f3 n1 n2 ha' hq'
          go_wp2_with (at_builtin; go_loud (refine wpList_append_lies _ rfl (.tmp 35) (.tmp 37) 134 (by rfl) 0 139 i0 _ 2 16 Try.underlying134 hi hz0 hz1 hz2 rfl (by omega) (.slice (some ⟨g, 0, none⟩) m cap) m (flat (d.take m)) (by rfl) HO.out ⟨w'.heap.size, 0, none⟩ 1 1 (pcells p) (by rfl) HLE.out (pcells_news (Blk.new _ _ _)) HFO.out (by omega) (by unfold maxLen; omega) (by omega) (Nat.zero_le _) (w'.heap.size + 1) (by simp) ?_); intro g2 cap2 w2 hown hgr hat hlt2; have ML := Lib.hid (K.out.last HM.out HN.out hown hgr hat); clear hown hgr hat)
          go_ret
          exact ⟨_, _, _, rfl, ML.out⟩
    · have hn : (d.take m).reverse = popR (sgn side) p d.reverse := by rw [← hpop, popR_short (by rw [List.length_reverse, List.length_take]; omega)]
      have g0 : decide ((1 : Int) < (m : Int)) = false := by simp; omega
      have HN := Lib.hid hn
      have HL := Lib.hid L
      have HLE := Lib.hid (show (pcells p).length = 1 * 2 from rfl)
      have HFO := Lib.hid (pcells_one p)
      have c0 : wr.cell? ⟨W.heap.size, 0, none⟩ = some (.int .u64 p.1) := L.pt.cell 0
      have c1 : wr.cell? ⟨W.heap.size, 1, none⟩ = some (.int .i64 p.2) := L.pt.cell 1
      clear hn hpop L HT hp BC
      go_wp2_with fail
      go_quiet (fail)
      have HO := Lib.hid ((HL.out.drewN nq).own hm (.cells #[.int .u64 p.1, .int .i64 p.2] 139))
      go_wp2_with (at_builtin; go_loud (refine wpList_append_lies _ rfl (.tmp 35) (.tmp 37) 134 (by rfl) 0 139 i0 _ 2 16 Try.underlying134 hi hz0 hz1 hz2 rfl (by omega) (.slice (some ⟨g, 0, none⟩) m cap) m (flat (d.take m)) (by rfl) HO.out ⟨wr.heap.size, 0, none⟩ 1 1 (pcells p) (by rfl) HLE.out (pcells_news (Blk.new _ _ _)) HFO.out (by omega) (by unfold maxLen; omega) (by omega) (Nat.zero_le _) (wr.heap.size + 1) (by simp) ?_); intro g2 cap2 w2 hown hgr hat hlt2; have ML := Lib.hid ((HL.out.drewN nq).last hm HN.out hown hgr hat); clear hown hgr hat)
      go_ret
      exact ⟨_, _, _, rfl, ML.out⟩
end Go.Proofs.Ytnccgpdniigekaa
/-
  A point laid behind a chain, or behind none.
-/
namespace Go.Proofs.Ytnccgpdniigekaa
open Go.RowKit
set_option linter.unusedVariables false
set_option linter.unusedSimpArgs false

theorem laid0_last {W w1 w2 : World} {g2 cap2 : Nat} {p : Pt} {b : Int} (hb : Below W.heap.size W w1) {o : Obj} (hown : w2.ownsRow 0 139 2 (.slice (some ⟨g2, 0, none⟩) (0 + 1) cap2) (0 + 1) ([] ++ pcells p)) (hgr : (w1.alloc o).grownBy w2 (Value.slice none 0 0).ownBlock)
    (hat : (Value.slice none 0 0).ownBlock = some g2 ∨ g2 = w1.heap.size + 1) :
    Row w2 (.slice (some ⟨g2, 0, none⟩) 1 cap2) (layL b p []) ∧ Chg (fun _ => False) W w2 ∧ W.heap.size ≤ g2 := by
  have hl : layL b p [] = [p] := rfl
  refine ⟨?_, ?_, ?_⟩
  · rw [hl]; exact hown
  · exact ((Chg.of_below hb).alloc o).grown hgr (fun k hk _ => by simp [Value.ownBlock] at hk)
  · rcases hat with h | h
    · simp [Value.ownBlock] at h
    · have := hb.size; omega
set_option maxHeartbeats 2000000 in
set_option maxRecDepth 4000 in
theorem laid_nil (p : Pt) (side : Int) (W : World) :
    Calls Try.prog 95 #[.slice none 0 0, .agg #[.int .u64 p.1, .int .i64 p.2], .int .i64 side] W fun e w' =>
      ∃ g2 n2 cap2, e = .returned (.slice (some ⟨g2, 0, none⟩) n2 cap2) ∧ Row w' (.slice (some ⟨g2, 0, none⟩) n2 cap2) (layL (sgn side) p []) ∧ Chg (fun _ => False) W w' ∧ W.heap.size ≤ g2 := by
  obtain ⟨i0, hi, hz0, hz1, hz2⟩ := info_parts infoP
  have HB : ∀ n, Hid (Below W.heap.size W ((W.alloc (.cells #[.int .u64 p.1, .int .i64 p.2] 139)).drewN n)) := fun n => Lib.hid (drewN_below (below_new (Below.refl _ _) _) n)
  go_enter Try.func95, Try.ntmps95
  go_wp2
  refine wp_loop_rounds 1 ?_
  rw [rounds_succ]
  go_wp2_with fail
  go_quiet (fail)
  have HLE := Lib.hid (show (pcells p).length = 1 * 2 from rfl)
  have HFO := Lib.hid (pcells_one p)
  have c0 : ((W.alloc (.cells #[.int .u64 p.1, .int .i64 p.2] 139)).drewN nq).cell? ⟨W.heap.size, 0, none⟩ = some (.int .u64 p.1) := ((Blk.new W 139 _).drewN nq).cell 0
  have c1 : ((W.alloc (.cells #[.int .u64 p.1, .int .i64 p.2] 139)).drewN nq).cell? ⟨W.heap.size, 1, none⟩ = some (.int .i64 p.2) := ((Blk.new W 139 _).drewN nq).cell 1
  go_wp2_with (at_builtin; go_loud (refine wpList_append_lies _ rfl (.tmp 35) (.tmp 37) 134 (by rfl) 0 139 i0 _ 2 16 Try.underlying134 hi hz0 hz1 hz2 rfl (by omega) (.slice none 0 0) 0 [] (by rfl) (World.ownsRow_nil _ _ _ _) ⟨W.heap.size + 1, 0, none⟩ 1 1 (pcells p) (by rfl) HLE.out (pcells_news (Blk.new' _ _ (by simp))) HFO.out (by omega) (by unfold maxLen; omega) (by omega) (Nat.zero_le _) (W.heap.size + 2) (by simp) ?_); intro g2 cap2 w2 hown hgr hat hlt2; have ML := Lib.hid (laid0_last (b := sgn side) (HB nq).out hown hgr (hat.imp id (fun h => h.trans (by simp)))); clear hown hgr hat)
  go_ret
  exact ⟨_, _, _, rfl, ML.out⟩
theorem laid_row (v : Value) (d : List Pt) (p : Pt) (side : Int) (hs : side = 0 ∨ side = 1) (hp : PtOk p) (hc : ∀ u ∈ d, PtOk u) (hx : d.Pairwise (fun u v => u.1 < v.1)) (hxp : ∀ u ∈ d, u.1 < p.1) (hlen : (d.length + 1) * 16 ≤ 140737488355328) (W : World) (R : Row W v d) :
    Calls Try.prog 95 #[v, .agg #[.int .u64 p.1, .int .i64 p.2], .int .i64 side] W fun e w' =>
      ∃ v', e = .returned v' ∧ Row w' v' (layL (sgn side) p d) ∧ Chg (fun k => v.ownBlock = some k) W w' ∧ (∀ g, v'.ownBlock = some g → v.ownBlock = some g ∨ W.heap.size ≤ g) := by
  rcases R.form with ⟨rfl, rfl⟩ | ⟨g, cap, rfl, _, _, _⟩
  · refine (laid_nil p side W).mono ?_
    rintro e w' ⟨g2, n2, cap2, rfl, r, c, h⟩
    exact ⟨_, rfl, r, c.mono (fun _ _ h => h.elim), fun g hg => by simp only [Value.ownBlock, Option.some.injEq] at hg; exact .inr (by omega)⟩
  · refine (laid_any g cap d p side hs hp hc hx hxp hlen W R).mono ?_
    rintro e w' ⟨g2, n2, cap2, rfl, r, c, h⟩
    refine ⟨_, rfl, r, c.mono (fun i _ h => by simp [Value.ownBlock, h]), fun g' hg => ?_⟩
    simp only [Value.ownBlock, Option.some.injEq] at hg
    subst hg
    rcases h with h | h
    · exact .inl (by simp [Value.ownBlock, h])
    · exact .inr h
end Go.Proofs.Ytnccgpdniigekaa
/-
  Plain: a chain over keys of 64 bits is short: no more than 2^42 points, however many keys there are.
-/
namespace Go.Proofs.Ytnccgpdniigekaa
set_option linter.unusedVariables false
set_option linter.unusedSimpArgs false

def smI : List Int → Int
  | [] => 0
  | a :: r => a + smI r
theorem smI_append : ∀ (a b : List Int), smI (a ++ b) = smI a + smI b
  | [], b => by simp [smI]
  | x :: a, b => by simp only [List.cons_append, smI, smI_append a b]; omega
theorem smI_reverse : ∀ (a : List Int), smI a.reverse = smI a
  | [] => rfl
  | x :: a => by simp only [List.reverse_cons, smI_append, smI, smI_reverse a]; omega
/-- Rising numbers have a great sum. -/
theorem smI_up : ∀ (L : List Int) (m : Int), L.Pairwise (· < ·) → (∀ a ∈ L, m ≤ a) → (L.length : Int) * (2 * m + L.length - 1) ≤ 2 * smI L
  | [], m, _, _ => by simp [smI]
  | a :: r, m, hp, hm => by
    rw [List.pairwise_cons] at hp
    have ih := smI_up r (a + 1) hp.2 (fun x hx => by have := hp.1 x hx; omega)
    have ha := hm a (by simp)
    simp only [smI, List.length_cons]
    generalize smI r = S at *
    have e : ((r.length : Nat) : Int) = r.length := rfl
    generalize hk : (r.length : Int) = k at *
    have hk0 : 0 ≤ k := by omega
    have h1 : (k + 1) * (2 * m + (k + 1) - 1) ≤ (k + 1) * (2 * a + (k + 1) - 1) := Int.mul_le_mul_of_nonneg_left (by omega) (by omega)
    have h2 : (k + 1) * (2 * a + (k + 1) - 1) = 2 * a + k * (2 * (a + 1) + k - 1) := by grind
    have h3 : ((r.length + 1 : Nat) : Int) = k + 1 := by omega
    rw [h3]
    omega
theorem up_few {L : List Int} (hp : L.Pairwise (· < ·)) (h1 : ∀ a ∈ L, 1 ≤ a) (hs : smI L ≤ 18446744073709551616) : L.length ≤ 8589934592 := by
  have h := smI_up L 1 hp h1
  rcases Nat.lt_or_ge 8589934592 L.length with hl | hl
  · exfalso
    generalize L.length = k at *
    have h2 : (8589934592 : Int) * 8589934592 ≤ (k : Int) * (2 * 1 + k - 1) := Int.mul_le_mul (by omega) (by omega) (by omega) (by omega)
    omega
  · exact hl
theorem down_few {L : List Int} (hp : L.Pairwise (fun a b => b < a)) (h1 : ∀ a ∈ L, 1 ≤ a) (hs : smI L ≤ 18446744073709551616) : L.length ≤ 8589934592 := by
  have := up_few (L := L.reverse) (List.pairwise_reverse.2 hp) (fun a ha => h1 a (List.mem_reverse.1 ha)) (by rw [smI_reverse]; exact hs)
  simpa using this

/-- From each point of a chain to the next newer one. -/
def stepsR : List Pt → List (Int × Int)
  | q :: a :: r => (q.1 - a.1, q.2 - a.2) :: stepsR (a :: r)
  | _ => []
theorem stepsR_length : ∀ c : List Pt, (stepsR c).length = c.length - 1
  | [] => rfl
  | [_] => rfl
  | q :: a :: r => by simp only [stepsR, List.length_cons, stepsR_length (a :: r)]; omega
theorem stepsR_sum : ∀ (c : List Pt) (t l : Pt), c.head? = some t → c.getLast? = some l → smI ((stepsR c).map (·.1)) = t.1 - l.1 ∧ smI ((stepsR c).map (·.2)) = t.2 - l.2
  | [], t, l, h, _ => by simp at h
  | [q], t, l, h, k => by simp at h k; subst h; subst k; simp [stepsR, smI]
  | q :: a :: r, t, l, h, k => by
    simp at h; subst h
    have := stepsR_sum (a :: r) a l rfl (by simpa [List.getLast?_cons_cons] using k)
    simp only [stepsR, List.map_cons, smI, this.1, this.2]; omega
/-- Steps whose slopes go one way. -/
def Sl (b : Int) (u v : Int × Int) : Prop := b * (v.2 * u.1 - u.2 * v.1) < 0
theorem Sl.trans {b : Int} (hb : b = 1 ∨ b = -1) {u v w : Int × Int} (hu : 1 ≤ u.1) (hv : 1 ≤ v.1) (hw : 1 ≤ w.1) (h : Sl b u v) (k : Sl b v w) : Sl b u w := by
  obtain ⟨u1, u2⟩ := u; obtain ⟨v1, v2⟩ := v; obtain ⟨w1, w2⟩ := w
  unfold Sl at *
  simp only [] at *
  have key : v1 * (w2 * u1 - u2 * w1) = u1 * (w2 * v1 - v2 * w1) + w1 * (v2 * u1 - u2 * v1) := by grind
  rcases hb with rfl | rfl
  · have a1 : u1 * (w2 * v1 - v2 * w1) < 0 := Int.mul_neg_of_pos_of_neg (by omega) (by omega)
    have a2 : w1 * (v2 * u1 - u2 * v1) < 0 := Int.mul_neg_of_pos_of_neg (by omega) (by omega)
    have a3 : v1 * (w2 * u1 - u2 * w1) < 0 := by omega
    have : w2 * u1 - u2 * w1 < 0 := by
      rcases Int.lt_or_le (w2 * u1 - u2 * w1) 0 with h | h
      · exact h
      · have := Int.mul_nonneg (show 0 ≤ v1 by omega) h; omega
    omega
  · have a1 : 0 < u1 * (w2 * v1 - v2 * w1) := Int.mul_pos (by omega) (by omega)
    have a2 : 0 < w1 * (v2 * u1 - u2 * v1) := Int.mul_pos (by omega) (by omega)
    have a3 : 0 < v1 * (w2 * u1 - u2 * w1) := by omega
    have : 0 < w2 * u1 - u2 * w1 := by
      rcases Int.lt_or_le 0 (w2 * u1 - u2 * w1) with h | h
      · exact h
      · have := Int.mul_nonneg (show 0 ≤ v1 by omega) (show 0 ≤ -(w2 * u1 - u2 * w1) by omega)
        rw [Int.mul_neg] at this; omega
    omega
theorem stepsR_sl {b : Int} (hb : b = 1 ∨ b = -1) : ∀ (c : List Pt), BentR b c → (∀ s ∈ stepsR c, 1 ≤ s.1) → (stepsR c).Pairwise (Sl b)
  | [], _, _ => List.Pairwise.nil
  | [_], _, _ => List.Pairwise.nil
  | [q, a], _, _ => by simp [stepsR]
  | q :: a :: d :: r, h, h1 => by
    have hh : (stepsR (a :: d :: r)).Pairwise (Sl b) := stepsR_sl hb (a :: d :: r) h.2 (fun s hs => h1 s (by simp only [stepsR] at hs ⊢; exact List.mem_cons_of_mem _ hs))
    rw [stepsR, List.pairwise_cons]
    refine ⟨?_, hh⟩
    have h0 : Sl b (q.1 - a.1, q.2 - a.2) (a.1 - d.1, a.2 - d.2) := by
      have := h.1
      unfold turnV at this
      unfold Sl
      simp only []
      have e : (a.2 - d.2) * (q.1 - a.1) - (q.2 - a.2) * (a.1 - d.1) = (a.2 - d.2) * (q.1 - d.1) - (q.2 - d.2) * (a.1 - d.1) := by grind
      rw [e]; exact this
    rw [stepsR] at hh ⊢
    rw [List.pairwise_cons] at hh
    intro s hs
    rcases List.mem_cons.1 hs with rfl | hs
    · exact h0
    · have m1 := h1 (q.1 - a.1, q.2 - a.2) (by simp [stepsR])
      have m2 := h1 (a.1 - d.1, a.2 - d.2) (by simp [stepsR])
      have m3 := h1 s (by simp only [stepsR]; exact List.mem_cons_of_mem _ (List.mem_cons_of_mem _ hs))
      exact h0.trans hb m1 m2 m3 (hh.1 s hs)

theorem filter_sum (p : Int × Int → Bool) : ∀ L : List (Int × Int), (∀ s ∈ L, 1 ≤ s.1) → smI ((L.filter p).map (·.1)) ≤ smI (L.map (·.1))
  | [], _ => by simp
  | a :: r, h => by
    have ih := filter_sum p r (fun s hs => h s (List.mem_cons_of_mem _ hs))
    have := h a (by simp)
    rw [List.filter_cons]
    split <;> simp only [List.map_cons, smI] <;> omega
theorem filter_step (Y : Nat) : ∀ L : List (Int × Int), (L.filter (fun s => decide (s.2 ≤ ((Y + 1 : Nat) : Int)))).length ≤ (L.filter (fun s => decide (s.2 ≤ (Y : Int)))).length + (L.filter (fun s => decide (s.2 = ((Y + 1 : Nat) : Int)))).length
  | [] => by simp
  | a :: r => by
    have ih := filter_step Y r
    rw [List.filter_cons, List.filter_cons, List.filter_cons]
    by_cases h1 : a.2 ≤ (Y : Int)
    · rw [if_pos (by simp; omega), if_pos (by simpa using h1)]
      split <;> simp only [List.length_cons] <;> omega
    · by_cases h2 : a.2 = ((Y + 1 : Nat) : Int)
      · rw [if_pos (by simp [h2]), if_neg (by simpa using h1), if_pos (by simp [h2])]; simp only [List.length_cons]; omega
      · rw [if_neg (by simp; omega), if_neg (by simpa using h1), if_neg (by simpa using h2)]; exact ih
theorem filter_split (Y : Nat) : ∀ L : List (Int × Int), L.length = (L.filter (fun s => decide (s.2 ≤ (Y : Int)))).length + (L.filter (fun s => decide ((Y : Int) < s.2))).length
  | [] => by simp
  | a :: r => by
    have ih := filter_split Y r
    rw [List.filter_cons, List.filter_cons]
    by_cases h1 : a.2 ≤ (Y : Int)
    · rw [if_pos (by simpa using h1), if_neg (by simp; omega)]; simp only [List.length_cons]; omega
    · rw [if_neg (by simpa using h1), if_pos (by simp; omega)]; simp only [List.length_cons]; omega
theorem filter_big (Y : Nat) : ∀ L : List (Int × Int), (∀ s ∈ L, 1 ≤ s.2) → ((L.filter (fun s => decide ((Y : Int) < s.2))).length : Int) * Y ≤ smI (L.map (·.2))
  | [], _ => by simp [smI]
  | a :: r, h => by
    have ih := filter_big Y r (fun s hs => h s (List.mem_cons_of_mem _ hs))
    have := h a (by simp)
    rw [List.filter_cons]
    by_cases h1 : (Y : Int) < a.2
    · rw [if_pos (by simpa using h1)]; simp only [List.length_cons, List.map_cons, smI]
      have e : (((r.filter (fun s => decide ((Y : Int) < s.2))).length + 1 : Nat) : Int) * Y = ((r.filter (fun s => decide ((Y : Int) < s.2))).length : Int) * Y + Y := by rw [Int.natCast_add, Int.add_mul]; omega
      omega
    · rw [if_neg (by simpa using h1)]; simp only [List.map_cons, smI]; omega
theorem same_few {b : Int} (hb : b = 1 ∨ b = -1) {L : List (Int × Int)} (hp : L.Pairwise (Sl b)) (h1 : ∀ s ∈ L, 1 ≤ s.1) (h2 : ∀ s ∈ L, 1 ≤ s.2) (hs : smI (L.map (·.1)) ≤ 18446744073709551616) (y : Int) :
    (L.filter (fun s => decide (s.2 = y))).length ≤ 8589934592 := by
  have hf := hp.sublist (List.filter_sublist (p := fun s => decide (s.2 = y)))
  have hsum := filter_sum (fun s => decide (s.2 = y)) L h1
  have hm : ∀ s ∈ L.filter (fun s => decide (s.2 = y)), s.2 = y ∧ 1 ≤ s.1 ∧ 1 ≤ s.2 := by
    intro s hs
    rw [List.mem_filter] at hs
    exact ⟨by simpa using hs.2, h1 s hs.1, h2 s hs.1⟩
  generalize L.filter (fun s => decide (s.2 = y)) = M at *
  have hlen : M.length = (M.map (·.1)).length := by simp
  rw [hlen]
  have h1' : ∀ a ∈ M.map (·.1), (1 : Int) ≤ a := by
    intro a ha
    obtain ⟨s, hs, rfl⟩ := List.mem_map.1 ha
    exact (hm s hs).2.1
  rcases hb with rfl | rfl
  · refine up_few ?_ h1' (by omega)
    rw [List.pairwise_map]
    refine hf.imp_of_mem ?_
    intro u v hu hv h
    have a := hm u hu; have b := hm v hv
    unfold Sl at h
    rw [a.1, b.1, ← Int.mul_sub, Int.one_mul] at h
    have hy : 0 < y := by omega
    rcases Int.lt_or_le u.1 v.1 with k | k
    · exact k
    · have := Int.mul_nonneg (Int.le_of_lt hy) (show 0 ≤ u.1 - v.1 by omega); omega
  · refine down_few ?_ h1' (by omega)
    rw [List.pairwise_map]
    refine hf.imp_of_mem ?_
    intro u v hu hv h
    have a := hm u hu; have b := hm v hv
    unfold Sl at h
    rw [a.1, b.1, ← Int.mul_sub] at h
    have hy : 0 < y := by omega
    rcases Int.lt_or_le v.1 u.1 with k | k
    · exact k
    · have := Int.mul_nonneg (Int.le_of_lt hy) (show 0 ≤ v.1 - u.1 by omega)
      have e : y * (v.1 - u.1) = -1 * (y * (u.1 - v.1)) := by grind
      omega
theorem all_few {b : Int} (hb : b = 1 ∨ b = -1) {L : List (Int × Int)} (hp : L.Pairwise (Sl b)) (h1 : ∀ s ∈ L, 1 ≤ s.1) (h2 : ∀ s ∈ L, 1 ≤ s.2) (hs : smI (L.map (·.1)) ≤ 18446744073709551616) :
    ∀ Y : Nat, (L.filter (fun s => decide (s.2 ≤ (Y : Int)))).length ≤ Y * 8589934592
  | 0 => by
    have : L.filter (fun s => decide (s.2 ≤ ((0 : Nat) : Int))) = [] := by
      rw [List.filter_eq_nil_iff]
      intro s hs'
      have := h2 s hs'
      simp; omega
    rw [this]; simp
  | Y + 1 => by
    have ih := all_few hb hp h1 h2 hs Y
    have := filter_step Y L
    have := same_few hb hp h1 h2 hs ((Y + 1 : Nat) : Int)
    omega
/-- A chain over keys of 64 bits, however many of them there are. -/
theorem Chain.short {b d : Int} (hb : b = 1 ∨ b = -1) {K : List Int} {c : List Pt} (h : Chain b (pts d 0 K) c) (hk : ∀ k ∈ K, 0 ≤ k ∧ k ≤ 18446744073709551615) (hup : K.Pairwise (· < ·)) (hn : K.length ≤ 17592186044416) : c.length ≤ 4398046511104 := by
  cases hc : c with
  | nil => simp
  | cons t r =>
    rw [← hc]
    obtain ⟨l, hl⟩ : ∃ l, c.getLast? = some l := ⟨_, List.getLast?_eq_some_getLast (by rw [hc]; simp)⟩
    have hpt : ∀ u ∈ c, ∃ j : Nat, j < K.length ∧ u = (K.getD j 0, (j : Int) + d) := by
      intro u hu
      obtain ⟨j, hj, e⟩ := pts_mem.1 (h.sub u hu)
      exact ⟨j, hj, by rw [e]; simp⟩
    have hK : ∀ j : Nat, j < K.length → 0 ≤ K.getD j 0 ∧ K.getD j 0 ≤ 18446744073709551615 := by
      intro j hj
      rw [List.getD_eq_getElem?_getD, List.getElem?_eq_getElem hj, Option.getD_some]; exact hk _ (List.getElem_mem hj)
    have hst : ∀ (c : List Pt), c.Pairwise (fun u v => v.1 < u.1) → (∀ u ∈ c, ∃ j : Nat, j < K.length ∧ u = (K.getD j 0, (j : Int) + d)) → ∀ s ∈ stepsR c, 1 ≤ s.1 ∧ 1 ≤ s.2 := by
      intro c
      induction c with
      | nil => intro _ _ s hs; simp [stepsR] at hs
      | cons q c ih =>
        cases c with
        | nil => intro _ _ s hs; simp [stepsR] at hs
        | cons a c =>
          intro hx hp s hs
          rw [List.pairwise_cons] at hx
          rw [stepsR] at hs
          rcases List.mem_cons.1 hs with rfl | hs
          · obtain ⟨i, hi, e1⟩ := hp q (by simp)
            obtain ⟨j, hj, e2⟩ := hp a (by simp)
            have hlt := hx.1 a (by simp)
            rw [e1, e2] at hlt ⊢
            simp only [] at hlt ⊢
            have hij : j < i := by
              rcases Nat.lt_or_ge j i with k | k
              · exact k
              · exfalso
                rcases Nat.lt_or_ge i j with m | m
                · have := List.pairwise_iff_getElem.1 hup i j hi hj m
                  simp only [List.getD_eq_getElem?_getD, List.getElem?_eq_getElem hi, List.getElem?_eq_getElem hj, Option.getD_some] at hlt
                  omega
                · obtain rfl : i = j := by omega
                  omega
            omega
          · exact ih hx.2 (fun u hu => hp u (List.mem_cons_of_mem _ hu)) s hs
    have h12 := hst c h.xs hpt
    obtain ⟨s1, s2⟩ := stepsR_sum c t l (by rw [hc]; rfl) hl
    obtain ⟨i, hi, et⟩ := hpt t (by rw [hc]; simp)
    obtain ⟨j, hj, el⟩ := hpt l (List.mem_of_getLast? hl)
    have k1 := hK i hi
    have k2 := hK j hj
    rw [et, el] at s1 s2
    simp only [] at s1 s2
    have hp := stepsR_sl hb c h.bent (fun s hs => (h12 s hs).1)
    have f1 := all_few hb hp (fun s hs => (h12 s hs).1) (fun s hs => (h12 s hs).2) (by omega) 256
    have f2 := filter_big 256 (stepsR c) (fun s hs => (h12 s hs).2)
    have f3 := filter_split 256 (stepsR c)
    have f4 := stepsR_length c
    generalize ((stepsR c).filter (fun s => decide (s.2 ≤ ((256 : Nat) : Int)))).length = A at *
    generalize ((stepsR c).filter (fun s => decide (((256 : Nat) : Int) < s.2))).length = B at *
    omega
end Go.Proofs.Ytnccgpdniigekaa
/-
  A fit in memory and what it is of: its chains, its slopes, its keys.
-/
namespace Go.Proofs.Ytnccgpdniigekaa
open Go.RowKit
set_option linter.unusedVariables false
set_option linter.unusedSimpArgs false

theorem layL_reverse {b : Int} {p : Pt} {d : List Pt} : (layL b p d).reverse = p :: popR b p d.reverse := by simp [layL]
/-- What is said of a fit beside its memory. -/
structure FitS (e : Int) (F : Fit) (c0 c1 : List Pt) : Prop where
  ok : FitOk F
  lo : Chain (-1) (pts (-e) 0 F.keys) c0.reverse
  up : Chain 1 (pts e 0 F.keys) c1.reverse
  key : ∀ k ∈ F.keys, u64ok k
  n0 : c0.length ≤ 4398046511104
  n1 : c1.length ≤ 4398046511104
  big : F.keys.length ≤ 17592186044416
  e0 : 1 ≤ e
  e1 : e ≤ 63
  fl : Fr64 F.low
  ft : Fr64 F.top
  wide : ¬ ltF F.top F.low
  lp : F.low.2 ≠ 0
section
variable {e : Int} {F : Fit} {c0 c1 : List Pt} {key : Int}
theorem FitS.zero (h0 : 1 ≤ e) (h1 : e ≤ 63) : FitS e Fit.zero [] [] :=
  ⟨FitOk.zero, Chain.nil _, Chain.nil _, fun _ h => absurd h (by simp [Fit.zero]), by simp, by simp, by simp [Fit.zero], h0, h1, ⟨by simp [Fit.zero], by simp [Fit.zero]⟩, ⟨by simp [Fit.zero], by simp [Fit.zero]⟩, by decide, by decide⟩
theorem FitS.pt_ok (h : FitS e F c0 c1) {d : Int} (hd : d = e ∨ d = -e) {u : Pt} (hu : u ∈ pts d 0 F.keys) : PtOk u := by
  obtain ⟨j, hj, rfl⟩ := pts_mem.1 hu
  have := h.big; have := h.e0; have := h.e1
  refine ⟨h.key _ ?_, ?_⟩
  · rw [List.getD_eq_getElem?_getD, List.getElem?_eq_getElem hj, Option.getD_some]; exact List.getElem_mem hj
  · unfold smallY; simp only []; omega
theorem FitS.new_ok (h : FitS e F c0 c1) (hk : u64ok key) {d : Int} (hd : d = e ∨ d = -e) : PtOk (key, (F.keys.length : Int) + d) := by
  have := h.big; have := h.e0; have := h.e1
  refine ⟨hk, ?_⟩
  unfold smallY; simp only []; omega
theorem FitS.lt (h : FitS e F c0 c1) (hl : F.late key = false) {d : Int} : ∀ u ∈ pts d 0 F.keys, u.1 < key := by
  intro u hu
  obtain ⟨j, hj, rfl⟩ := pts_mem.1 hu
  exact h.ok.lt hl j hj
theorem FitS.ne0 (h : FitS e F c0 c1) (hn : F.keys ≠ []) : c0 ≠ [] := by
  have := h.lo.ne (by intro hp; apply hn; have := congrArg List.length hp; cases hK : F.keys with
    | nil => rfl
    | cons a r => rw [hK] at hp; simp [pts] at hp)
  intro e; apply this; rw [e]; rfl
theorem FitS.ne1 (h : FitS e F c0 c1) (hn : F.keys ≠ []) : c1 ≠ [] := by
  have := h.up.ne (by intro hp; apply hn; have := congrArg List.length hp; cases hK : F.keys with
    | nil => rfl
    | cons a r => rw [hK] at hp; simp [pts] at hp)
  intro e; apply this; rw [e]; rfl
/-- Where the search stopped on the upper chain: the least slope. -/
theorem FitS.low_at (h : FitS e F c0 c1) (hl : F.late key = false) {i : Nat} (hi : i < c1.length) (A : Amid 1 c1 (key, (F.keys.length : Int) - e) (c1.length - 1) i i) :
    c1[i] ∈ pts e 0 F.keys ∧ lowBy F.low c1[i] (key, (F.keys.length : Int) - e) = F.lowWith e key := by
  have hs : sgn 1 = 1 := rfl
  have B := h.up.best (p := (key, (F.keys.length : Int) - e)) (h.lt hl) (i := i) (by simpa using hi)
    (by
      rcases A.lo with h0 | h0
      · exact .inl h0
      · by_cases hz : i = 0
        · exact .inl hz
        · refine .inr ⟨by simp; omega, ?_⟩
          simp only [stopAt, hs, decide_eq_false_iff_not, List.getD_eq_getElem?_getD] at h0
          rw [List.getElem?_eq_getElem (by omega), List.getElem?_eq_getElem (by omega), Option.getD_some, Option.getD_some] at h0
          simpa using h0)
    (by
      rcases A.hi with h1 | h1
      · exact .inl (by simp; omega)
      · by_cases hz : i + 1 = c1.length
        · exact .inl (by simpa using hz)
        · refine .inr ⟨by simp; omega, ?_⟩
          simp only [stopAt, hs, decide_eq_true_eq, List.getD_eq_getElem?_getD] at h1
          rw [List.getElem?_eq_getElem (by omega), List.getElem?_eq_getElem (by omega), Option.getD_some, Option.getD_some] at h1
          simpa using h1)
  simp only [List.reverse_reverse] at B
  exact ⟨B.1, lowBy_eq h.ok hl B.1 (fun q hq => by have := B.2 q hq; simpa using this)⟩
theorem FitS.top_at (h : FitS e F c0 c1) (hl : F.late key = false) {i : Nat} (hi : i < c0.length) (A : Amid 0 c0 (key, (F.keys.length : Int) + e) (c0.length - 1) i i) :
    c0[i] ∈ pts (-e) 0 F.keys ∧ topBy F.top c0[i] (key, (F.keys.length : Int) + e) = F.topWith e key := by
  have hs : sgn 0 = -1 := rfl
  have B := h.lo.best (p := (key, (F.keys.length : Int) + e)) (h.lt hl) (i := i) (by simpa using hi)
    (by
      rcases A.lo with h0 | h0
      · exact .inl h0
      · by_cases hz : i = 0
        · exact .inl hz
        · refine .inr ⟨by simp; omega, ?_⟩
          simp only [stopAt, hs, decide_eq_false_iff_not, List.getD_eq_getElem?_getD] at h0
          rw [List.getElem?_eq_getElem (by omega), List.getElem?_eq_getElem (by omega), Option.getD_some, Option.getD_some] at h0
          simpa using h0)
    (by
      rcases A.hi with h1 | h1
      · exact .inl (by simp; omega)
      · by_cases hz : i + 1 = c0.length
        · exact .inl (by simpa using hz)
        · refine .inr ⟨by simp; omega, ?_⟩
          simp only [stopAt, hs, decide_eq_true_eq, List.getD_eq_getElem?_getD] at h1
          rw [List.getElem?_eq_getElem (by omega), List.getElem?_eq_getElem (by omega), Option.getD_some, Option.getD_some] at h1
          simpa using h1)
  simp only [List.reverse_reverse] at B
  exact ⟨B.1, topBy_eq h.ok (by have := h.e0; omega) hl B.1 (fun q hq => by have := B.2 q hq; simpa using this)⟩
theorem Fr64.low {n d : Int} (hn : 0 ≤ n) (hd : 0 < d) (h1 : n ≤ 9223372036854775807) (h2 : d ≤ 18446744073709551615) : Fr64 (lowest n d) := by
  obtain ⟨l, _, p, a, b, _⟩ := lowest_low hn hd
  exact ⟨⟨l.ok.num, by omega⟩, ⟨l.ok.den, by omega⟩⟩
theorem FitS.low64 (h : FitS e F c0 c1) (hk : u64ok key) (hl : F.late key = false) : Fr64 (F.lowWith e key) := by
  have hk2 := h.ok.lt hl
  rcases (lowUp_max (e := e) (n := F.keys.length) hk2 h.ok.low F.keys.length (Nat.le_refl _)).is with q | ⟨i, hi, hp, q⟩
  · rw [Fit.lowWith, q]; exact h.fl
  · rw [Fit.lowWith, q]
    have := hk2 i hi; have := h.big; have := hk.2; have := h.e0
    have hm : u64ok (F.keys.getD i 0) := h.key _ (by rw [List.getD_eq_getElem?_getD, List.getElem?_eq_getElem hi, Option.getD_some]; exact List.getElem_mem hi)
    have := hm.1
    exact Fr64.low (by omega) (by omega) (by omega) (by omega)
theorem FitS.lowOk (h : FitS e F c0 c1) (hl : F.late key = false) : LowF (F.lowWith e key) ∧ (F.lowWith e key).2 ≠ 0 := by
  have hk2 := h.ok.lt hl
  rcases (lowUp_max (e := e) (n := F.keys.length) hk2 h.ok.low F.keys.length (Nat.le_refl _)).is with q | ⟨i, hi, hp, q⟩
  · rw [Fit.lowWith, q]; exact ⟨h.ok.low, h.lp⟩
  · rw [Fit.lowWith, q]
    have L := lowest_low (n := (F.keys.length : Int) - i - 2 * e) (d := key - F.keys.getD i 0) (by omega) (by have := hk2 i hi; omega)
    exact ⟨L.1, by have := L.2.2.1; omega⟩
theorem FitS.topOk (h : FitS e F c0 c1) (hl : F.late key = false) : LowF (F.topWith e key) := by
  have hk2 := h.ok.lt hl
  rcases (topUp_min (e := e) (n := F.keys.length) (by have := h.e0; omega) (fun i hi => by omega) hk2 h.ok.top F.keys.length (Nat.le_refl _)).is with q | ⟨i, hi, q⟩
  · rw [Fit.topWith, q]; exact h.ok.top
  · rw [Fit.topWith, q]
    exact (lowest_low (by have := h.e0; omega) (by have := hk2 i hi; omega)).1
theorem FitS.top64 (h : FitS e F c0 c1) (hk : u64ok key) (hl : F.late key = false) : Fr64 (F.topWith e key) := by
  have hk2 := h.ok.lt hl
  rcases (topUp_min (e := e) (n := F.keys.length) (by have := h.e0; omega) (fun i hi => by omega) hk2 h.ok.top F.keys.length (Nat.le_refl _)).is with q | ⟨i, hi, q⟩
  · rw [Fit.topWith, q]; exact h.ft
  · rw [Fit.topWith, q]
    have := hk2 i hi; have := h.big; have := hk.2; have := h.e0; have := h.e1
    have hm : u64ok (F.keys.getD i 0) := h.key _ (by rw [List.getD_eq_getElem?_getD, List.getElem?_eq_getElem hi, Option.getD_some]; exact List.getElem_mem hi)
    have := hm.1
    exact Fr64.low (by omega) (by omega) (by omega) (by omega)
/-- A key taken: the chains with their new points. -/
theorem FitS.taken (h : FitS e F c0 c1) (hk : u64ok key) (hl : F.late key = false) (hb : F.keys.length < 17592186044416) (hok : FitOk ⟨F.keys ++ [key], F.lowWith e key, F.topWith e key⟩) (hlt : ¬ ltF (F.topWith e key) (F.lowWith e key)) :
    FitS e ⟨F.keys ++ [key], F.lowWith e key, F.topWith e key⟩ (layL (-1) (key, (F.keys.length : Int) - e) c0) (layL 1 (key, (F.keys.length : Int) + e) c1) := by
  have e2 : pts (-e) 0 (F.keys ++ [key]) = (key, (F.keys.length : Int) - e) :: pts (-e) 0 F.keys := by rw [pts_snoc]; simp; omega
  have e3 : pts e 0 (F.keys ++ [key]) = (key, (F.keys.length : Int) + e) :: pts e 0 F.keys := by rw [pts_snoc]; simp
  have kk : ∀ k ∈ F.keys ++ [key], u64ok k := by
    intro k hkm
    rcases List.mem_append.1 hkm with hm | hm
    · exact h.key k hm
    · obtain rfl : k = key := by simpa using hm
      exact hk
  have k1 : Chain (-1) (pts (-e) 0 (F.keys ++ [key])) (layL (-1) (key, (F.keys.length : Int) - e) c0).reverse := by rw [layL_reverse, e2]; exact h.lo.lay (h.lt hl)
  have k2 : Chain 1 (pts e 0 (F.keys ++ [key])) (layL 1 (key, (F.keys.length : Int) + e) c1).reverse := by rw [layL_reverse, e3]; exact h.up.lay (h.lt hl)
  have n1 := k1.short (.inr rfl) kk hok.up (by simp; omega)
  have n2 := k2.short (.inl rfl) kk hok.up (by simp; omega)
  rw [List.length_reverse] at n1 n2
  exact ⟨hok, k1, k2, kk, n1, n2, by simp; omega, h.e0, h.e1, h.low64 hk hl, h.top64 hk hl, hlt, (h.lowOk hl).2⟩
end
end Go.Proofs.Ytnccgpdniigekaa
