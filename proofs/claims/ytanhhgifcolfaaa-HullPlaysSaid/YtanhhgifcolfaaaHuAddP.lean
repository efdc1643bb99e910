/-
  (*hull.Fit).Add: its premises, the memory on the way.
-/
import Derived.Test.YtanhhgifcolfaaaHuState
import Derived.Deep.DeepCutAuto
import Derived.Deep.CutBlock
namespace Go.Proofs.Ytanhhgifcolfaaa
open Go.RowKit
set_option linter.unusedVariables false
set_option linter.unusedSimpArgs false

theorem add_late (b : Nat) (e n last : Int) (low top : Fr) (v0 v1 : Value) (c0 c1 : List Pt) (key : Int) (hn : 0 < n) (hk : key ≤ last) (w : World) (H : FitM w b e n last low top v0 v1 c0 c1) :
    Calls Try.prog 17 #[.pointer (some ⟨b, 0, none⟩), .int .u64 key] w fun e' w' => e' = .returned (.tuple #[.bool false, .int .i64 40]) ∧ w = w' := by
  have x1 : w.cell? ⟨b, 1, none⟩ = some (.int .i64 n) := H.blk.cell 1
  have x2 : w.cell? ⟨b, 2, none⟩ = some (.int .u64 last) := H.blk.cell 2
  clear H
  have g0 : decide (0 < n) = true := by simpa using hn
  go_enter Try.func17, Try.ntmps17
  go_wp2_with fail
  go_ret2
  exact ⟨rfl, rfl⟩
/-- What Add has laid by when it begins to ask the chains: the two points, the least and the greatest slope so far. -/
structure A1 (W : World) (b : Nat) (e n last : Int) (low top : Fr) (v0 v1 : Value) (c0 c1 : List Pt) (key : Int) (g7 g8 : Nat) (l t : Fr) (w : World) : Prop where
  m : FitM w b e n last low top v0 v1 c0 c1
  p : Blk w W.heap.size 71 #[.int .u64 key, .int .i64 (n - e), .int .u64 key, .int .i64 (n + e)]
  ne : g7 ≠ g8
  lo7 : W.heap.size < g7
  lo8 : W.heap.size < g8
  l : Blk w g7 39 #[.int .u64 l.1, .int .u64 l.2]
  t : Blk w g8 39 #[.int .u64 t.1, .int .u64 t.2]
  bel : Below W.heap.size W w
/-- Behind the points. -/
structure P4 (W : World) (b : Nat) (e n last : Int) (low top : Fr) (v0 v1 : Value) (c0 c1 : List Pt) (key : Int) (w : World) : Prop where
  m : FitM w b e n last low top v0 v1 c0 c1
  p : Blk w W.heap.size 71 #[.int .u64 key, .int .i64 (n - e), .int .u64 key, .int .i64 (n + e)]
  bel : Below W.heap.size W w
section
variable {W w w' : World} {b : Nat} {e n last : Int} {low top : Fr} {v0 v1 : Value} {c0 c1 : List Pt} {key : Int}
theorem P4.below (h : P4 W b e n last low top v0 v1 c0 c1 key w) (k : Below w.heap.size w w') : P4 W b e n last low top v0 v1 c0 c1 key w' := ⟨h.m.below k, h.p.below k, below_next h.bel k⟩
theorem P4.alloc (h : P4 W b e n last low top v0 v1 c0 c1 key w) (o : Obj) : P4 W b e n last low top v0 v1 c0 c1 key (w.alloc o) := h.below (below_new (Below.refl _ _) o)
theorem P4.drew (h : P4 W b e n last low top v0 v1 c0 c1 key w) : P4 W b e n last low top v0 v1 c0 c1 key w.drew := h.below (Below.refl _ _).drew
theorem P4.all (h : P4 W b e n last low top v0 v1 c0 c1 key w) : P4 W b e n last low top v0 v1 c0 c1 key w ∧ w.cell? ⟨b, 3, none⟩ = some (.int .u64 low.1) ∧ w.cell? ⟨b, 4, none⟩ = some (.int .u64 low.2) ∧ w.cell? ⟨b, 5, none⟩ = some (.int .u64 top.1) ∧ w.cell? ⟨b, 6, none⟩ = some (.int .u64 top.2) :=
  ⟨h, h.m.blk.cell 3, h.m.blk.cell 4, h.m.blk.cell 5, h.m.blk.cell 6⟩
end
section
variable {W w w' : World} {b : Nat} {e n last : Int} {low top : Fr} {v0 v1 : Value} {c0 c1 : List Pt} {key : Int} {g7 g8 : Nat} {l t : Fr}
theorem A1.below (h : A1 W b e n last low top v0 v1 c0 c1 key g7 g8 l t w) (k : Below w.heap.size w w') : A1 W b e n last low top v0 v1 c0 c1 key g7 g8 l t w' :=
  ⟨h.m.below k, h.p.below k, h.ne, h.lo7, h.lo8, h.l.below k, h.t.below k, below_next h.bel k⟩
theorem A1.alloc (h : A1 W b e n last low top v0 v1 c0 c1 key g7 g8 l t w) (o : Obj) : A1 W b e n last low top v0 v1 c0 c1 key g7 g8 l t (w.alloc o) := h.below (below_new (Below.refl _ _) o)
theorem A1.setL (h : A1 W b e n last low top v0 v1 c0 c1 key g7 g8 l t w) (HW : FitM W b e n last low top v0 v1 c0 c1) (l' : Fr) :
    A1 W b e n last low top v0 v1 c0 c1 key g7 g8 l' t ((w.setCell ⟨g7, 0, none⟩ (.int .u64 l'.1)).setCell ⟨g7, 1, none⟩ (.int .u64 l'.2)) := by
  have h7 := h.lo7
  exact ⟨h.m.chg (((Chg.refl (fun k => k = g7) _).setCell (fun _ => rfl) _).setCell (fun _ => rfl) _) (by have := HW.blk.lt; omega) (fun g hg => by have := HW.r0.lt hg; omega) (fun g hg => by have := HW.r1.lt hg; omega),
    h.p.far2 (by omega), h.ne, h.lo7, h.lo8, h.l.set2, h.t.far2 h.ne.symm, below_set2 h.bel (by omega)⟩
theorem A1.setT (h : A1 W b e n last low top v0 v1 c0 c1 key g7 g8 l t w) (HW : FitM W b e n last low top v0 v1 c0 c1) (t' : Fr) :
    A1 W b e n last low top v0 v1 c0 c1 key g7 g8 l t' ((w.setCell ⟨g8, 0, none⟩ (.int .u64 t'.1)).setCell ⟨g8, 1, none⟩ (.int .u64 t'.2)) := by
  have h8 := h.lo8
  exact ⟨h.m.chg (((Chg.refl (fun k => k = g8) _).setCell (fun _ => rfl) _).setCell (fun _ => rfl) _) (by have := HW.blk.lt; omega) (fun g hg => by have := HW.r0.lt hg; omega) (fun g hg => by have := HW.r1.lt hg; omega),
    h.p.far2 (by omega), h.ne, h.lo7, h.lo8, h.l.far2 h.ne, h.t.set2, below_set2 h.bel (by omega)⟩
theorem A1.drew (h : A1 W b e n last low top v0 v1 c0 c1 key g7 g8 l t w) : A1 W b e n last low top v0 v1 c0 c1 key g7 g8 l t w.drew := h.below (Below.refl _ _).drew
end
/-- A fit behind a pointer, and all that is said of it. -/
def FitV (w : World) (b : Nat) (e : Int) (F : Fit) (v0 v1 : Value) : Prop :=
  ∃ last c0 c1, FitM w b e F.keys.length last F.low F.top v0 v1 c0 c1 ∧ FitS e F c0 c1 ∧ (∀ l, F.keys.getLast? = some l → l = last) ∧ (∀ g, v0.ownBlock = some g → v1.ownBlock ≠ some g)
/-- What Add leaves. -/
def AddPost (W : World) (b : Nat) (e : Int) (F : Fit) (v0 v1 : Value) (key : Int) (e' : Ending) (w' : World) : Prop :=
  e' = .returned (.tuple #[.bool (F.add e key).1.1, .int .i64 (F.add e key).1.2]) ∧ ∃ v0' v1', FitV w' b e (F.add e key).2 v0' v1' ∧
    Chg (fun k => k = b ∨ v0.ownBlock = some k ∨ v1.ownBlock = some k) W w' ∧ (∀ g, v0'.ownBlock = some g → v0.ownBlock = some g ∨ W.heap.size ≤ g) ∧ (∀ g, v1'.ownBlock = some g → v1.ownBlock = some g ∨ W.heap.size ≤ g)
/-- Behind the chains. -/
structure A2 (W : World) (b : Nat) (e n last : Int) (low top : Fr) (v0 v1 v0' v1' : Value) (d0 d1 : List Pt) (g7 g8 : Nat) (l t : Fr) (w : World) : Prop where
  m : FitM w b e n last low top v0' v1' d0 d1
  ne : g7 ≠ g8
  lo7 : W.heap.size < g7
  lo8 : W.heap.size < g8
  l : Blk w g7 39 #[.int .u64 l.1, .int .u64 l.2]
  t : Blk w g8 39 #[.int .u64 t.1, .int .u64 t.2]
  chg : Chg (fun k => k = b ∨ v0.ownBlock = some k ∨ v1.ownBlock = some k) W w
  o0 : ∀ g, v0'.ownBlock = some g → v0.ownBlock = some g ∨ W.heap.size ≤ g
  o1 : ∀ g, v1'.ownBlock = some g → v1.ownBlock = some g ∨ W.heap.size ≤ g
  off : ∀ g, v0'.ownBlock = some g → v1'.ownBlock ≠ some g
/-- What Add is called with. -/
structure AC (W : World) (b : Nat) (e : Int) (F : Fit) (n : Nat) (last : Int) (v0 v1 : Value) (c0 c1 : List Pt) (key : Int) : Prop where
  hk : u64ok key
  S : FitS e F c0 c1
  hn : F.keys.length = n
  hl : F.late key = false
  big : n < 17592186044416
  H : FitM W b e n last F.low F.top v0 v1 c0 c1
  off : ∀ g, v0.ownBlock = some g → v1.ownBlock ≠ some g
  lst : ∀ l, F.keys.getLast? = some l → l = last
section
variable {W : World} {b : Nat} {e : Int} {F : Fit} {n : Nat} {last : Int} {v0 v1 : Value} {c0 c1 : List Pt} {key : Int}
theorem AC.ne (C : AC W b e F n last v0 v1 c0 c1 key) (hz : 0 < n) : F.keys ≠ [] := by intro hh; have := C.hn; rw [hh] at this; simp at this; omega
theorem AC.lt (C : AC W b e F n last v0 v1 c0 c1 key) (hz : 0 < n) : last < key := by
  have h := C.hl
  unfold Fit.late at h
  have hne := C.ne hz
  rw [List.getLast?_eq_some_getLast hne] at h
  have := C.lst _ (List.getLast?_eq_some_getLast hne)
  simp at h; omega
theorem AC.pt (C : AC W b e F n last v0 v1 c0 c1 key) {d : Int} (hd : d = e ∨ d = -e) : PtOk (key, (n : Int) + d) := by have := C.S.new_ok C.hk hd; rwa [C.hn] at this
theorem AC.up (C : AC W b e F n last v0 v1 c0 c1 key) (w : World) (M : FitM w b e n last F.low F.top v0 v1 c0 c1) (hz : 0 < n) :
    Calls Try.prog 35 #[.pointer (some ⟨b, 0, none⟩), .int .i64 1, .agg #[.int .u64 key, .int .i64 (n - e)]] w fun e' w' =>
      (∃ (i : Nat) (h : i < c1.length), e' = .returned (.agg #[.int .u64 c1[i].1, .int .i64 c1[i].2]) ∧ Amid 1 c1 (key, (n : Int) - e) (c1.length - 1) i i) ∧ Below w.heap.size w w' :=
  touching_up b e n last F.low F.top v0 v1 c0 c1 (key, (n : Int) - e) (C.pt (d := -e) (.inr rfl)) (fun u hu => ⟨C.S.pt_ok (.inl rfl) (C.S.up.sub u (List.mem_reverse.2 hu)), Int.le_of_lt (C.S.lt C.hl u (C.S.up.sub u (List.mem_reverse.2 hu)))⟩) (by have := C.S.n1; omega) (C.S.ne1 (C.ne hz)) w M
theorem AC.down (C : AC W b e F n last v0 v1 c0 c1 key) (w : World) (M : FitM w b e n last F.low F.top v0 v1 c0 c1) (hz : 0 < n) :
    Calls Try.prog 35 #[.pointer (some ⟨b, 0, none⟩), .int .i64 0, .agg #[.int .u64 key, .int .i64 (n + e)]] w fun e' w' =>
      (∃ (i : Nat) (h : i < c0.length), e' = .returned (.agg #[.int .u64 c0[i].1, .int .i64 c0[i].2]) ∧ Amid 0 c0 (key, (n : Int) + e) (c0.length - 1) i i) ∧ Below w.heap.size w w' :=
  touching_low b e n last F.low F.top v0 v1 c0 c1 (key, (n : Int) + e) (C.pt (d := e) (.inl rfl)) (fun u hu => ⟨C.S.pt_ok (.inr rfl) (C.S.lo.sub u (List.mem_reverse.2 hu)), Int.le_of_lt (C.S.lt C.hl u (C.S.lo.sub u (List.mem_reverse.2 hu)))⟩) (by have := C.S.n0; omega) (C.S.ne0 (C.ne hz)) w M
theorem AC.low_at (C : AC W b e F n last v0 v1 c0 c1 key) {i : Nat} (hi : i < c1.length) (A : Amid 1 c1 (key, (n : Int) - e) (c1.length - 1) i i) :
    c1[i] ∈ pts e 0 F.keys ∧ lowBy F.low c1[i] (key, (n : Int) - e) = F.lowWith e key := by
  obtain ⟨h1, h2⟩ := C.S.low_at C.hl hi (by rw [C.hn]; exact A)
  rw [C.hn] at h2; exact ⟨h1, h2⟩
theorem AC.top_at (C : AC W b e F n last v0 v1 c0 c1 key) {i : Nat} (hi : i < c0.length) (A : Amid 0 c0 (key, (n : Int) + e) (c0.length - 1) i i) :
    c0[i] ∈ pts (-e) 0 F.keys ∧ topBy F.top c0[i] (key, (n : Int) + e) = F.topWith e key := by
  obtain ⟨h1, h2⟩ := C.S.top_at C.hl hi (by rw [C.hn]; exact A)
  rw [C.hn] at h2; exact ⟨h1, h2⟩
theorem AC.low_between (C : AC W b e F n last v0 v1 c0 c1 key) {i : Nat} (hi : i < c1.length) (hm : c1[i] ∈ pts e 0 F.keys) (hy : c1[i].2 < (n : Int) - e) (w : World) :
    (Calls Try.prog 36 #[.agg #[.int .u64 c1[i].1, .int .i64 c1[i].2], .agg #[.int .u64 key, .int .i64 (n - e)]] w fun e' w' => e' = .returned (frV (slopeF (c1[i].1, c1[i].2) (key, (n : Int) - e))) ∧ Below w.heap.size w w') ∧
      Fr64 (lowest ((n : Int) - e - c1[i].2) (key - c1[i].1)) ∧ OkF (lowest ((n : Int) - e - c1[i].2) (key - c1[i].1)) ∧ (lowest ((n : Int) - e - c1[i].2) (key - c1[i].1)).2 ≠ 0 := by
  have o1 := C.S.pt_ok (.inl rfl) hm
  have o2 : PtOk (key, (n : Int) - e) := C.pt (d := -e) (.inr rfl)
  have hx := C.S.lt C.hl _ hm
  have LL := lowest_low (n := (n : Int) - e - c1[i].2) (d := key - c1[i].1) (by omega) (by omega)
  refine ⟨between_any c1[i].1 c1[i].2 key ((n : Int) - e) o1.1 o2.1 o1.2 o2.2 hx (Int.le_of_lt hy) w, Fr64.low (by omega) (by omega) ?_ ?_, LL.1.ok, by have := LL.2.2.1; omega⟩
  · have := o1.2; have := C.big; have := C.S.e1; have := C.S.e0; unfold smallY at *; omega
  · have := C.hk.2; have := o1.1.1; omega
theorem AC.top_between (C : AC W b e F n last v0 v1 c0 c1 key) {i : Nat} (hi : i < c0.length) (hm : c0[i] ∈ pts (-e) 0 F.keys) (w : World) :
    (Calls Try.prog 36 #[.agg #[.int .u64 c0[i].1, .int .i64 c0[i].2], .agg #[.int .u64 key, .int .i64 (n + e)]] w fun e' w' => e' = .returned (frV (slopeF (c0[i].1, c0[i].2) (key, (n : Int) + e))) ∧ Below w.heap.size w w') ∧
      Fr64 (lowest ((n : Int) + e - c0[i].2) (key - c0[i].1)) ∧ OkF (lowest ((n : Int) + e - c0[i].2) (key - c0[i].1)) ∧ (lowest ((n : Int) + e - c0[i].2) (key - c0[i].1)).2 ≠ 0 := by
  have o1 := C.S.pt_ok (.inr rfl) hm
  have o2 : PtOk (key, (n : Int) + e) := C.pt (d := e) (.inl rfl)
  have hx := C.S.lt C.hl _ hm
  have hy : c0[i].2 ≤ (n : Int) + e := by
    obtain ⟨j, hj, hq⟩ := pts_mem.1 hm
    have := C.hn; have := C.S.e0
    rw [hq]; simp only []; omega
  have LL := lowest_low (n := (n : Int) + e - c0[i].2) (d := key - c0[i].1) (by omega) (by omega)
  refine ⟨between_any c0[i].1 c0[i].2 key ((n : Int) + e) o1.1 o2.1 o1.2 o2.2 hx hy w, Fr64.low (by omega) (by omega) ?_ ?_, LL.1.ok, by have := LL.2.2.1; omega⟩
  · have := o1.2; have := C.big; have := C.S.e1; have := C.S.e0; unfold smallY at *; omega
  · have := C.hk.2; have := o1.1.1; omega
end
theorem AC.refused {W : World} {b : Nat} {e : Int} {F : Fit} {n : Nat} {last : Int} {v0 v1 : Value} {c0 c1 : List Pt} {key : Int} {g7 g8 : Nat} {l t : Fr} (C : AC W b e F n last v0 v1 c0 c1 key) {w : World} (h : A1 W b e n last F.low F.top v0 v1 c0 c1 key g7 g8 l t w) (hlt : ltF (F.topWith e key) (F.lowWith e key)) :
    AddPost W b e F v0 v1 key (.returned (.tuple #[.bool false, .int .i64 0])) w := by
  have e1 : F.add e key = ((false, 0), F) := by rw [Fit.add, if_neg (by simp [C.hl]), if_pos hlt]
  refine ⟨by rw [e1], v0, v1, ?_, (Chg.of_below h.bel).mono (fun _ _ h => h.elim), fun g hg => .inl hg, fun g hg => .inl hg⟩
  rw [e1]
  exact ⟨last, c0, c1, by rw [C.hn]; exact h.m, C.S, C.lst, C.off⟩
def cThen : Code → Code
  | .cond _ a _ => a
  | _ => .skip
def cFst : Code → Code
  | .seq a _ => a
  | _ => .skip
def cSnd : Code → Code
  | .seq _ b => b
  | _ => .skip
noncomputable def addRest : Code := cSnd (cSnd (cSnd (cSnd (Try.f17.body.getD .skip))))
noncomputable def addCond : Code := cSnd (cFst addRest)
noncomputable def addTail : Code := cSnd addRest
noncomputable def addLow : Code := cFst (cThen addCond)
noncomputable def addTop1 : Code := cFst (cFst (cSnd (cThen addCond)))
noncomputable def addTop2 : Code := cSnd (cFst (cSnd (cThen addCond)))
noncomputable def addEnd : Code := cSnd (cSnd (cThen addCond))
noncomputable def addLoop : Code := cFst addTail
noncomputable def addLast : Code := cSnd addTail
end Go.Proofs.Ytanhhgifcolfaaa
