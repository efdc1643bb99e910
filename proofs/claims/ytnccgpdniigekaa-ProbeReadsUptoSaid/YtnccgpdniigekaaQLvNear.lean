/-
  near of the law: on levels that are right it holds.
-/
import Derived.Test.YtnccgpdniigekaaQG27
import Derived.Test.YtnccgpdniigekaaQG33
namespace Go.Proofs.Ytnccgpdniigekaa
open Go.RowKit
set_option linter.unusedVariables false
set_option linter.unusedSimpArgs false
attribute [local go_sem high] run_store_float

/-- Does a key stand there. -/
def hasN (K : List Int) (q : Int) : Nat → Bool
  | 0 => false
  | n + 1 => hasN K q n || (K.getD n 0 == q)
theorem hasN_at {K : List Int} {q : Int} : ∀ {n : Nat}, hasN K q n = true → ∃ i, i < n ∧ K.getD i 0 = q
  | 0, h => by simp [hasN] at h
  | n + 1, h => by
    rw [hasN, Bool.or_eq_true, beq_iff_eq] at h
    rcases h with h | h
    · obtain ⟨i, hi, e⟩ := hasN_at h; exact ⟨i, by omega, e⟩
    · exact ⟨n, by omega, h⟩
/-- What near asks of a level. -/
structure NearAt (eps q : Int) (K : List Int) (l : List Sg) : Prop where
  pos : 0 < l.length
  ok : SgOk (l.getD (pickN l q l.length) zS)
  b1 : guess (l.getD (pickN l q l.length) zS) q - belowN K q K.length ≤ eps
  b2 : -(guess (l.getD (pickN l q l.length) zS) q - belowN K q K.length) ≤ eps + 1
  b3 : hasN K q K.length = true → -(guess (l.getD (pickN l q l.length) zS) q - belowN K q K.length) ≤ eps
def NearT (eps q : Int) : List Int → List (List Sg) → Prop
  | _, [] => True
  | K, l :: ll => NearAt eps q K l ∧ NearT eps q (firstsL l) ll
theorem NearT.step {eps q : Int} {K : List Int} {ll : List (List Sg)} {i : Nat} {l : List Sg} (h : NearT eps q K (ll.drop i)) (hi : i < ll.length) (hl : ll.getD i [] = l) : NearAt eps q K l ∧ NearT eps q (firstsL l) (ll.drop (i + 1)) := by
  rw [drop_at [] ll hi, hl] at h
  exact h
theorem chk_zero {K : List Int} {eps : Int} {ll : List (List Sg)} (h : chkI K eps ll = 0) : 2 ≤ eps ∧ eps ≤ 64 ∧ K.Pairwise (· < ·) ∧ (ll.length : Int) ≤ mhI 4294967296 eps ∧ (ll.length = 0 ↔ K.length = 0) ∧ (0 < ll.length → levE eps ll K = 0) := by
  unfold chkI at h
  by_cases h1 : eps < 2 ∨ 64 < eps
  · rw [if_pos h1] at h; omega
  rw [if_neg h1] at h
  by_cases h2 : K.Pairwise (· < ·)
  · rw [if_neg (by simp [h2])] at h
    by_cases h3 : mhI 4294967296 eps < ll.length ∨ ¬ (ll.length = 0 ↔ K.length = 0)
    · rw [if_pos h3] at h; omega
    · rw [if_neg h3] at h
      have h5 : (ll.length = 0 ↔ K.length = 0) := by
        apply Classical.byContradiction; intro hh; exact h3 (.inr hh)
      have h6 : ¬ mhI 4294967296 eps < ll.length := fun hh => h3 (.inl hh)
      refine ⟨by omega, by omega, h2, by omega, h5, fun hl => ?_⟩
      rwa [if_neg (by omega)] at h
  · rw [if_pos h2] at h; omega
/-- What the loop over a level keeps: the keys gathered, the segment that stands. -/
structure NI (w : World) (b : Nat) (v : Value) (L : List Int) (s : Sg) (wr : World) : Prop where
  fr : FR w v L wr
  blk : Blk wr b 33 s.c
  ge : w.heap.size ≤ b
theorem FR.base {w w1 wr : World} {v : Value} {L : List Int} (k : Below w.heap.size w w1) (h : FR w1 v L wr) : FR w v L wr := ⟨h.own, fun g hg => Nat.le_trans k.size (h.new g hg), below_next k h.bel⟩
theorem NI.start {w wr : World} (k : Below w.heap.size w wr) (s : Sg) : NI w wr.heap.size (.slice (some ⟨wr.heap.size + 1, 0, none⟩) 0 0) [] s ((wr.alloc (.cells s.c 33)).alloc (.cells #[] 24)) := by
  have h1 := FR.start (wr.alloc (.cells s.c 33))
  have e : (wr.alloc (.cells s.c 33)).heap.size = wr.heap.size + 1 := by simp
  rw [e] at h1
  exact ⟨FR.base (below_new k _) h1, (Blk.new _ _ _).alloc _, k.size⟩
theorem NI.put {w wr : World} {b : Nat} {v : Value} {L : List Int} {s : Sg} (h : NI w b v L s wr) (t : Sg) :
    NI w b v L t (((((wr.setCell ⟨b, 0, none⟩ (.int .u64 t.first)).setCell ⟨b, 1, none⟩ (.float .f64 t.sl)).setCell ⟨b, 2, none⟩ (.float .f64 t.ic)).setCell ⟨b, 3, none⟩ (.int .i64 t.fr)).setCell ⟨b, 4, none⟩ (.int .i64 t.up)) := by
  have C : Chg (fun k => k = b) wr (((((wr.setCell ⟨b, 0, none⟩ (.int .u64 t.first)).setCell ⟨b, 1, none⟩ (.float .f64 t.sl)).setCell ⟨b, 2, none⟩ (.float .f64 t.ic)).setCell ⟨b, 3, none⟩ (.int .i64 t.fr)).setCell ⟨b, 4, none⟩ (.int .i64 t.up)) :=
    (((((Chg.refl (fun k => k = b) wr).setCell (p := ⟨b, _, none⟩) (fun _ => rfl) _).setCell (p := ⟨b, _, none⟩) (fun _ => rfl) _).setCell (p := ⟨b, _, none⟩) (fun _ => rfl) _).setCell (p := ⟨b, _, none⟩) (fun _ => rfl) _).setCell (p := ⟨b, _, none⟩) (fun _ => rfl) _
  have hne := own_ne_blk h.fr.own h.blk (by decide)
  refine ⟨⟨own_chg h.fr.own C (fun g hg hb => hne (by rw [hg, hb])), h.fr.new, below_chg h.fr.bel C (fun k _ hk => by rw [hk]; exact h.ge) h.fr.bel.size⟩, ?_, h.ge⟩
  have := ((((h.blk.set 0 (.int .u64 t.first)).set 1 (.float .f64 t.sl)).set 2 (.float .f64 t.ic)).set 3 (.int .i64 t.fr)).set 4 (.int .i64 t.up)
  exact this
theorem NI.grown {w wr w1 : World} {b : Nat} {v : Value} {L : List Int} {s : Sg} {x : Int} {o : Obj} {g cap n : Nat} (h : NI w b v L s wr) (hn : L.length = n)
    (hown : w1.ownsRow 0 24 1 (.slice (some ⟨g, 0, none⟩) (n + 1) cap) (n + 1) (L.map (Value.int .u64) ++ [.int .u64 x]))
    (hgr : (wr.alloc o).grownBy w1 v.ownBlock) (hat : v.ownBlock = some g ∨ g = wr.heap.size + 1) : NI w b (.slice (some ⟨g, 0, none⟩) (n + 1) cap) (L ++ [x]) s w1 := by
  have hne := own_ne_blk h.fr.own h.blk (by decide)
  have C : Chg (fun k => v.ownBlock = some k) wr w1 := ((Chg.refl _ wr).alloc o).grown hgr (fun k hk _ => hk)
  exact ⟨h.fr.grown hn hown hgr hat, h.blk.chg C hne, h.ge⟩
theorem NI.cells {w wr : World} {b : Nat} {v : Value} {L : List Int} {a : Int} {x y : Nat} {d e : Int} (h : NI w b v L ⟨a, x, y, d, e⟩ wr) : wr.cell? ⟨b, 0, none⟩ = some (.int .u64 a) ∧ wr.cell? ⟨b, 1, none⟩ = some (.float .f64 x) ∧ wr.cell? ⟨b, 2, none⟩ = some (.float .f64 y) ∧ wr.cell? ⟨b, 3, none⟩ = some (.int .i64 d) ∧ wr.cell? ⟨b, 4, none⟩ = some (.int .i64 e) :=
  ⟨h.blk.cell 0, h.blk.cell 1, h.blk.cell 2, h.blk.cell 3, h.blk.cell 4⟩
end Go.Proofs.Ytnccgpdniigekaa
