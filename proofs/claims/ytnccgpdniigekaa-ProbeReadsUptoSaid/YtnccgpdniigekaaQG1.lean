/-
  (*hull.Fit).Add: its premises, the memory on the way.
-/
import Derived.Test.YtnccgpdniigekaaQG3
import Derived.Deep.DeepCutAuto
import Derived.Deep.CutBlock
namespace Go.Proofs.Ytnccgpdniigekaa
open Go.RowKit
set_option linter.unusedVariables false
set_option linter.unusedSimpArgs false

theorem add_late (b : Nat) (e n last : Int) (low top : Fr) (v0 v1 : Value) (c0 c1 : List Pt) (key : Int) (hn : 0 < n) (hk : key ≤ last) (w : World) (H : FitM w b e n last low top v0 v1 c0 c1) :
    Calls Try.prog 81 #[.pointer (some ⟨b, 0, none⟩), .int .u64 key] w fun e' w' => e' = .returned (.tuple #[.bool false, .int .i64 40]) ∧ w = w' := by
  have x1 : w.cell? ⟨b, 1, none⟩ = some (.int .i64 n) := H.blk.cell 1
  have x2 : w.cell? ⟨b, 2, none⟩ = some (.int .u64 last) := H.blk.cell 2
  clear H
  have g0 : decide (0 < n) = true := by simpa using hn
  go_enter Try.func81, Try.ntmps81
  go_wp2_with fail
  go_ret2
  exact ⟨rfl, rfl⟩
/-- What Add has laid by when it begins to ask the chains: the two points, the least and the greatest slope so far. -/
structure A1 (W : World) (b : Nat) (e n last : Int) (low top : Fr) (v0 v1 : Value) (c0 c1 : List Pt) (key : Int) (g7 g8 : Nat) (l t : Fr) (w : World) : Prop where
  m : FitM w b e n last low top v0 v1 c0 c1
  p : Blk w W.heap.size 140 #[.int .u64 key, .int .i64 (n - e), .int .u64 key, .int .i64 (n + e)]
  ne : g7 ≠ g8
  lo7 : W.heap.size < g7
  lo8 : W.heap.size < g8
  l : Blk w g7 122 #[.int .u64 l.1, .int .u64 l.2]
  t : Blk w g8 122 #[.int .u64 t.1, .int .u64 t.2]
  bel : Below W.heap.size W w
/-- Behind the points. -/
structure P4 (W : World) (b : Nat) (e n last : Int) (low top : Fr) (v0 v1 : Value) (c0 c1 : List Pt) (key : Int) (w : World) : Prop where
  m : FitM w b e n last low top v0 v1 c0 c1
  p : Blk w W.heap.size 140 #[.int .u64 key, .int .i64 (n - e), .int .u64 key, .int .i64 (n + e)]
  bel : Below W.heap.size W w
section
variable {W w w' : World} {b : Nat} {e n last : Int} {low top : Fr} {v0 v1 : Value} {c0 c1 : List Pt} {key : Int}
theorem P4.below (h : P4 W b e n last low top v0 v1 c0 c1 key w) (k : Below w.heap.size w w') : P4 W b e n last low top v0 v1 c0 c1 key w' := ⟨h.m.below k, h.p.below k, below_next h.bel k⟩
theorem P4.alloc (h : P4 W b e n last low top v0 v1 c0 c1 key w) (o : Obj) : P4 W b e n last low top v0 v1 c0 c1 key (w.alloc o) := h.below (below_new (Below.refl _ _) o)
theorem P4.drew (h : P4 W b e n last low top v0 v1 c0 c1 key w) : P4 W b e n last low top v0 v1 c0 c1 key w.drew := h.below (Below.refl _ _).drew
theorem P4.all (h : P4 W b e n last low top v0 v1 c0 c1 key w) : P4 W b e n last low top v0 v1 c0 c1 key w ∧ w.cell? ⟨b, 3, none⟩ = some (.int .u64 low.1) ∧ w.cell? ⟨b, 4, none⟩ = some (.int .u64 low.2) ∧ w.cell? ⟨b, 5, none⟩ = some (.int .u64 top.1) ∧ w.cell? ⟨b, 6, none⟩ = some (.int .u64 top.2) :=
  ⟨h, h.m.blk.cell 3, h.m.blk.cell 4, h.m.blk.cell 5, h.m.blk.cell 6⟩
end
section
variable {W w w' : World} {b : Nat} {e n last : Int} {low top : Fr} {v0 v1 : Value} {c0 c1 : List Pt} {key : Int} {g7 g8 : Nat} {l t : Fr}
theorem A1.below (h : A1 W b e n last low top v0 v1 c0 c1 key g7 g8 l t w) (k : Below w.heap.size w w') : A1 W b e n last low top v0 v1 c0 c1 key g7 g8 l t w' :=
  ⟨h.m.below k, h.p.below k, h.ne, h.lo7, h.lo8, h.l.below k, h.t.below k, below_next h.bel k⟩
theorem A1.alloc (h : A1 W b e n last low top v0 v1 c0 c1 key g7 g8 l t w) (o : Obj) : A1 W b e n last low top v0 v1 c0 c1 key g7 g8 l t (w.alloc o) := h.below (below_new (Below.refl _ _) o)
theorem A1.setL (h : A1 W b e n last low top v0 v1 c0 c1 key g7 g8 l t w) (HW : FitM W b e n last low top v0 v1 c0 c1) (l' : Fr) :
    A1 W b e n last low top v0 v1 c0 c1 key g7 g8 l' t ((w.setCell ⟨g7, 0, none⟩ (.int .u64 l'.1)).setCell ⟨g7, 1, none⟩ (.int .u64 l'.2)) := by
  have h7 := h.lo7
  exact ⟨h.m.chg (((Chg.refl (fun k => k = g7) _).setCell (fun _ => rfl) _).setCell (fun _ => rfl) _) (by have := HW.blk.lt; omega) (fun g hg => by have := HW.r0.lt hg; omega) (fun g hg => by have := HW.r1.lt hg; omega),
    h.p.far2 (by omega), h.ne, h.lo7, h.lo8, h.l.set2, h.t.far2 h.ne.symm, below_set2 h.bel (by omega)⟩
theorem A1.setT (h : A1 W b e n last low top v0 v1 c0 c1 key g7 g8 l t w) (HW : FitM W b e n last low top v0 v1 c0 c1) (t' : Fr) :
    A1 W b e n last low top v0 v1 c0 c1 key g7 g8 l t' ((w.setCell ⟨g8, 0, none⟩ (.int .u64 t'.1)).setCell ⟨g8, 1, none⟩ (.int .u64 t'.2)) := by
  have h8 := h.lo8
  exact ⟨h.m.chg (((Chg.refl (fun k => k = g8) _).setCell (fun _ => rfl) _).setCell (fun _ => rfl) _) (by have := HW.blk.lt; omega) (fun g hg => by have := HW.r0.lt hg; omega) (fun g hg => by have := HW.r1.lt hg; omega),
    h.p.far2 (by omega), h.ne, h.lo7, h.lo8, h.l.far2 h.ne, h.t.set2, below_set2 h.bel (by omega)⟩
theorem A1.drew (h : A1 W b e n last low top v0 v1 c0 c1 key g7 g8 l t w) : A1 W b e n last low top v0 v1 c0 c1 key g7 g8 l t w.drew := h.below (Below.refl _ _).drew
end
/-- A fit behind a pointer, and all that is said of it. -/
def FitV (w : World) (b : Nat) (e : Int) (F : Fit) (v0 v1 : Value) : Prop :=
  ∃ last c0 c1, FitM w b e F.keys.length last F.low F.top v0 v1 c0 c1 ∧ FitS e F c0 c1 ∧ (∀ l, F.keys.getLast? = some l → l = last) ∧ (∀ g, v0.ownBlock = some g → v1.ownBlock ≠ some g)
/-- What Add leaves. -/
def AddPost (W : World) (b : Nat) (e : Int) (F : Fit) (v0 v1 : Value) (key : Int) (e' : Ending) (w' : World) : Prop :=
  e' = .returned (.tuple #[.bool (F.add e key).1.1, .int .i64 (F.add e key).1.2]) ∧ ∃ v0' v1', FitV w' b e (F.add e key).2 v0' v1' ∧
    Chg (fun k => k = b ∨ v0.ownBlock = some k ∨ v1.ownBlock = some k) W w' ∧ (∀ g, v0'.ownBlock = some g → v0.ownBlock = some g ∨ W.heap.size ≤ g) ∧ (∀ g, v1'.ownBlock = some g → v1.ownBlock = some g ∨ W.heap.size ≤ g)
/-- Behind the chains. -/
structure A2 (W : World) (b : Nat) (e n last : Int) (low top : Fr) (v0 v1 v0' v1' : Value) (d0 d1 : List Pt) (g7 g8 : Nat) (l t : Fr) (w : World) : Prop where
  m : FitM w b e n last low top v0' v1' d0 d1
  ne : g7 ≠ g8
  lo7 : W.heap.size < g7
  lo8 : W.heap.size < g8
  l : Blk w g7 122 #[.int .u64 l.1, .int .u64 l.2]
  t : Blk w g8 122 #[.int .u64 t.1, .int .u64 t.2]
  chg : Chg (fun k => k = b ∨ v0.ownBlock = some k ∨ v1.ownBlock = some k) W w
  o0 : ∀ g, v0'.ownBlock = some g → v0.ownBlock = some g ∨ W.heap.size ≤ g
  o1 : ∀ g, v1'.ownBlock = some g → v1.ownBlock = some g ∨ W.heap.size ≤ g
  off : ∀ g, v0'.ownBlock = some g → v1'.ownBlock ≠ some g
/-- What Add is called with. -/
structure AC (W : World) (b : Nat) (e : Int) (F : Fit) (n : Nat) (last : Int) (v0 v1 : Value) (c0 c1 : List Pt) (key : Int) : Prop where
  hk : u64ok key
  S : FitS e F c0 c1
  hn : F.keys.length = n
  hl : F.late key = false
  big : n < 17592186044416
  H : FitM W b e n last F.low F.top v0 v1 c0 c1
  off : ∀ g, v0.ownBlock = some g → v1.ownBlock ≠ some g
  lst : ∀ l, F.keys.getLast? = some l → l = last
section
variable {W : World} {b : Nat} {e : Int} {F : Fit} {n : Nat} {last : Int} {v0 v1 : Value} {c0 c1 : List Pt} {key : Int}
theorem AC.ne (C : AC W b e F n last v0 v1 c0 c1 key) (hz : 0 < n) : F.keys ≠ [] := by intro hh; have := C.hn; rw [hh] at this; simp at this; omega
theorem AC.lt (C : AC W b e F n last v0 v1 c0 c1 key) (hz : 0 < n) : last < key := by
  have h := C.hl
  unfold Fit.late at h
  have hne := C.ne hz
  rw [List.getLast?_eq_some_getLast hne] at h
  have := C.lst _ (List.getLast?_eq_some_getLast hne)
  simp at h; omega
theorem AC.pt (C : AC W b e F n last v0 v1 c0 c1 key) {d : Int} (hd : d = e ∨ d = -e) : PtOk (key, (n : Int) + d) := by have := C.S.new_ok C.hk hd; rwa [C.hn] at this
theorem AC.up (C : AC W b e F n last v0 v1 c0 c1 key) (w : World) (M : FitM w b e n last F.low F.top v0 v1 c0 c1) (hz : 0 < n) :
    Calls Try.prog 92 #[.pointer (some ⟨b, 0, none⟩), .int .i64 1, .agg #[.int .u64 key, .int .i64 (n - e)]] w fun e' w' =>
      (∃ (i : Nat) (h : i < c1.length), e' = .returned (.agg #[.int .u64 c1[i].1, .int .i64 c1[i].2]) ∧ Amid 1 c1 (key, (n : Int) - e) (c1.length - 1) i i) ∧ Below w.heap.size w w' :=
  touching_up b e n last F.low F.top v0 v1 c0 c1 (key, (n : Int) - e) (C.pt (d := -e) (.inr rfl)) (fun u hu => ⟨C.S.pt_ok (.inl rfl) (C.S.up.sub u (List.mem_reverse.2 hu)), Int.le_of_lt (C.S.lt C.hl u (C.S.up.sub u (List.mem_reverse.2 hu)))⟩) (by have := C.S.n1; omega) (C.S.ne1 (C.ne hz)) w M
theorem AC.down (C : AC W b e F n last v0 v1 c0 c1 key) (w : World) (M : FitM w b e n last F.low F.top v0 v1 c0 c1) (hz : 0 < n) :
    Calls Try.prog 92 #[.pointer (some ⟨b, 0, none⟩), .int .i64 0, .agg #[.int .u64 key, .int .i64 (n + e)]] w fun e' w' =>
      (∃ (i : Nat) (h : i < c0.length), e' = .returned (.agg #[.int .u64 c0[i].1, .int .i64 c0[i].2]) ∧ Amid 0 c0 (key, (n : Int) + e) (c0.length - 1) i i) ∧ Below w.heap.size w w' :=
  touching_low b e n last F.low F.top v0 v1 c0 c1 (key, (n : Int) + e) (C.pt (d := e) (.inl rfl)) (fun u hu => ⟨C.S.pt_ok (.inr rfl) (C.S.lo.sub u (List.mem_reverse.2 hu)), Int.le_of_lt (C.S.lt C.hl u (C.S.lo.sub u (List.mem_reverse.2 hu)))⟩) (by have := C.S.n0; omega) (C.S.ne0 (C.ne hz)) w M
theorem AC.low_at (C : AC W b e F n last v0 v1 c0 c1 key) {i : Nat} (hi : i < c1.length) (A : Amid 1 c1 (key, (n : Int) - e) (c1.length - 1) i i) :
    c1[i] ∈ pts e 0 F.keys ∧ lowBy F.low c1[i] (key, (n : Int) - e) = F.lowWith e key := by
  obtain ⟨h1, h2⟩ := C.S.low_at C.hl hi (by rw [C.hn]; exact A)
  rw [C.hn] at h2; exact ⟨h1, h2⟩
theorem AC.top_at (C : AC W b e F n last v0 v1 c0 c1 key) {i : Nat} (hi : i < c0.length) (A : Amid 0 c0 (key, (n : Int) + e) (c0.length - 1) i i) :
    c0[i] ∈ pts (-e) 0 F.keys ∧ topBy F.top c0[i] (key, (n : Int) + e) = F.topWith e key := by
  obtain ⟨h1, h2⟩ := C.S.top_at C.hl hi (by rw [C.hn]; exact A)
  rw [C.hn] at h2; exact ⟨h1, h2⟩
theorem AC.low_between (C : AC W b e F n last v0 v1 c0 c1 key) {i : Nat} (hi : i < c1.length) (hm : c1[i] ∈ pts e 0 F.keys) (hy : c1[i].2 < (n : Int) - e) (w : World) :
    (Calls Try.prog 93 #[.agg #[.int .u64 c1[i].1, .int .i64 c1[i].2], .agg #[.int .u64 key, .int .i64 (n - e)]] w fun e' w' => e' = .returned (frV (slopeF (c1[i].1, c1[i].2) (key, (n : Int) - e))) ∧ Below w.heap.size w w') ∧
      Fr64 (lowest ((n : Int) - e - c1[i].2) (key - c1[i].1)) ∧ OkF (lowest ((n : Int) - e - c1[i].2) (key - c1[i].1)) ∧ (lowest ((n : Int) - e - c1[i].2) (key - c1[i].1)).2 ≠ 0 := by
  have o1 := C.S.pt_ok (.inl rfl) hm
  have o2 : PtOk (key, (n : Int) - e) := C.pt (d := -e) (.inr rfl)
  have hx := C.S.lt C.hl _ hm
  have LL := lowest_low (n := (n : Int) - e - c1[i].2) (d := key - c1[i].1) (by omega) (by omega)
  refine ⟨between_any c1[i].1 c1[i].2 key ((n : Int) - e) o1.1 o2.1 o1.2 o2.2 hx (Int.le_of_lt hy) w, Fr64.low (by omega) (by omega) ?_ ?_, LL.1.ok, by have := LL.2.2.1; omega⟩
  · have := o1.2; have := C.big; have := C.S.e1; have := C.S.e0; unfold smallY at *; omega
  · have := C.hk.2; have := o1.1.1; omega
theorem AC.top_between (C : AC W b e F n last v0 v1 c0 c1 key) {i : Nat} (hi : i < c0.length) (hm : c0[i] ∈ pts (-e) 0 F.keys) (w : World) :
    (Calls Try.prog 93 #[.agg #[.int .u64 c0[i].1, .int .i64 c0[i].2], .agg #[.int .u64 key, .int .i64 (n + e)]] w fun e' w' => e' = .returned (frV (slopeF (c0[i].1, c0[i].2) (key, (n : Int) + e))) ∧ Below w.heap.size w w') ∧
      Fr64 (lowest ((n : Int) + e - c0[i].2) (key - c0[i].1)) ∧ OkF (lowest ((n : Int) + e - c0[i].2) (key - c0[i].1)) ∧ (lowest ((n : Int) + e - c0[i].2) (key - c0[i].1)).2 ≠ 0 := by
  have o1 := C.S.pt_ok (.inr rfl) hm
  have o2 : PtOk (key, (n : Int) + e) := C.pt (d := e) (.inl rfl)
  have hx := C.S.lt C.hl _ hm
  have hy : c0[i].2 ≤ (n : Int) + e := by
    obtain ⟨j, hj, hq⟩ := pts_mem.1 hm
    have := C.hn; have := C.S.e0
    rw [hq]; simp only []; omega
  have LL := lowest_low (n := (n : Int) + e - c0[i].2) (d := key - c0[i].1) (by omega) (by omega)
  refine ⟨between_any c0[i].1 c0[i].2 key ((n : Int) + e) o1.1 o2.1 o1.2 o2.2 hx hy w, Fr64.low (by omega) (by omega) ?_ ?_, LL.1.ok, by have := LL.2.2.1; omega⟩
  · have := o1.2; have := C.big; have := C.S.e1; have := C.S.e0; unfold smallY at *; omega
  · have := C.hk.2; have := o1.1.1; omega
end
theorem AC.refused {W : World} {b : Nat} {e : Int} {F : Fit} {n : Nat} {last : Int} {v0 v1 : Value} {c0 c1 : List Pt} {key : Int} {g7 g8 : Nat} {l t : Fr} (C : AC W b e F n last v0 v1 c0 c1 key) {w : World} (h : A1 W b e n last F.low F.top v0 v1 c0 c1 key g7 g8 l t w) (hlt : ltF (F.topWith e key) (F.lowWith e key)) :
    AddPost W b e F v0 v1 key (.returned (.tuple #[.bool false, .int .i64 0])) w := by
  have e1 : F.add e key = ((false, 0), F) := by rw [Fit.add, if_neg (by simp [C.hl]), if_pos hlt]
  refine ⟨by rw [e1], v0, v1, ?_, (Chg.of_below h.bel).mono (fun _ _ h => h.elim), fun g hg => .inl hg, fun g hg => .inl hg⟩
  rw [e1]
  exact ⟨last, c0, c1, by rw [C.hn]; exact h.m, C.S, C.lst, C.off⟩
def cThen : Code → Code
  | .cond _ a _ => a
  | _ => .skip
def cFst : Code → Code
  | .seq a _ => a
  | _ => .skip
def cSnd : Code → Code
  | .seq _ b => b
  | _ => .skip
noncomputable def addRest : Code := cSnd (cSnd (cSnd (cSnd (Try.f81.body.getD .skip))))
noncomputable def addCond : Code := cSnd (cFst addRest)
noncomputable def addTail : Code := cSnd addRest
noncomputable def addLow : Code := cFst (cThen addCond)
noncomputable def addTop1 : Code := cFst (cFst (cSnd (cThen addCond)))
noncomputable def addTop2 : Code := cSnd (cFst (cSnd (cThen addCond)))
noncomputable def addEnd : Code := cSnd (cSnd (cThen addCond))
noncomputable def addLoop : Code := cFst addTail
noncomputable def addLast : Code := cSnd addTail
end Go.Proofs.Ytnccgpdniigekaa
/-
  (*hull.Fit).Add: the least slope.
-/
namespace Go.Proofs.Ytnccgpdniigekaa
open Go.RowKit
set_option linter.unusedVariables false
set_option linter.unusedSimpArgs false

set_option maxHeartbeats 4000000 in
set_option maxRecDepth 10000 in
theorem add_low {W : World} {b : Nat} {e : Int} {F : Fit} {n : Nat} {last : Int} {v0 v1 : Value} {c0 c1 : List Pt} {key : Int} {g7 g8 : Nat} (C : Hid (AC W b e F n last v0 v1 c0 c1 key)) (hz : 0 < n) {wc : World} (HA : Hid (A1 W b e n last F.low F.top v0 v1 c0 c1 key g7 g8 F.low F.top wc)) (u2 u3 u9 u10 u11 u12 u13 u14 u15 u16 u17 u18 u19 u20 u21 u22 u23 u24 u25 u26 u27 u28 u29 u30 u31 u32 u33 u34 u35 u36 u37 u38 u39 u40 u41 u42 u43 u44 u45 u46 u47 u48 u49 u50 u51 u52 u53 u54 u55 u56 u57 u58 u59 u60 u61 u62 u63 u64 u65 u66 u67 u68 u69 u70 u71 u72 u73 u74 u75 u76 u77 u78 u79 u80 u81 u82 u83 u84 u85 u86 u87 u88 u89 u90 u91 u92 u93 u94 u95 u96 u97 u98 u99 u100 u101 u102 u103 u104 u105 u106 u107 u108 u109 u110 u111 u112 u113 u114 u115 u116 u117 u118 u119 u120 u121 u122 u123 u124 u125 u126 u127 u128 u129 u130 u131 u132 : Value) {K : Act → World → Prop} {Q : Exit → Act → World → Prop}
    (hK : ∀ (x9 x10 x62 x63 x64 x65 x66 x67 x68 x69 x70 x71 x72 x73 x74 x75 x76 x77 x78 x79 : Value) (wx : World), Hid (A1 W b e n last F.low F.top v0 v1 c0 c1 key g7 g8 (F.lowWith e key) F.top wx) → K ⟨#[.pointer (some ⟨b, 0, none⟩), .int .u64 key, u2, u3, .bool false, .int .i64 0, .pointer (some ⟨W.heap.size, 0, none⟩), .pointer (some ⟨g7, 0, none⟩), .pointer (some ⟨g8, 0, none⟩), x9, x10, u11, u12, u13, u14, u15, u16, u17, u18, u19, u20, u21, u22, u23, u24, u25, u26, u27, u28, u29, u30, u31, u32, u33, u34, u35, u36, u37, u38, u39, u40, u41, u42, u43, u44, u45, u46, u47, u48, u49, u50, u51, u52, u53, u54, u55, u56, u57, u58, u59, u60, u61, x62, x63, x64, x65, x66, x67, x68, x69, x70, x71, x72, x73, x74, x75, x76, x77, x78, x79, u80, u81, u82, u83, u84, u85, u86, u87, u88, u89, u90, u91, u92, u93, u94, u95, u96, u97, u98, u99, u100, u101, u102, u103, u104, u105, u106, u107, u108, u109, u110, u111, u112, u113, u114, u115, u116, u117, u118, u119, u120, u121, u122, u123, u124, u125, u126, u127, u128, u129, u130, u131, u132], []⟩ wx) :
    Code.wp Try.prog addLow (Exit.then K Q) ⟨#[.pointer (some ⟨b, 0, none⟩), .int .u64 key, u2, u3, .bool false, .int .i64 0, .pointer (some ⟨W.heap.size, 0, none⟩), .pointer (some ⟨g7, 0, none⟩), .pointer (some ⟨g8, 0, none⟩), u9, u10, u11, u12, u13, u14, u15, u16, u17, u18, u19, u20, u21, u22, u23, u24, u25, u26, u27, u28, u29, u30, u31, u32, u33, u34, u35, u36, u37, u38, u39, u40, u41, u42, u43, u44, u45, u46, u47, u48, u49, u50, u51, u52, u53, u54, u55, u56, u57, u58, u59, u60, u61, u62, u63, u64, u65, u66, u67, u68, u69, u70, u71, u72, u73, u74, u75, u76, u77, u78, u79, u80, u81, u82, u83, u84, u85, u86, u87, u88, u89, u90, u91, u92, u93, u94, u95, u96, u97, u98, u99, u100, u101, u102, u103, u104, u105, u106, u107, u108, u109, u110, u111, u112, u113, u114, u115, u116, u117, u118, u119, u120, u121, u122, u123, u124, u125, u126, u127, u128, u129, u130, u131, u132], []⟩ wc := by
  conv => arg 2; whnf
  have HKK := Lib.hid hK
  have kp0 : wc.cell? ⟨W.heap.size, 0, none⟩ = some (.int .u64 key) := HA.out.p.cell 0
  have kp1 : wc.cell? ⟨W.heap.size, 1, none⟩ = some (.int .i64 (n - e)) := HA.out.p.cell 1
  have TU := C.out.up wc HA.out.m hz
  have HH := Lib.hid C.out.H
  clear hK
  go_wp2_with fail
  refine TU.mono ?_
  rintro e5 w5 ⟨⟨i, hi, rfl, A⟩, hb5⟩
  obtain ⟨hmem, hlow'⟩ := C.out.low_at hi A
  have A5 : A1 W b e n last F.low F.top v0 v1 c0 c1 key g7 g8 F.low F.top (w5.alloc (.cells #[.int .u64 c1[i].1, .int .i64 c1[i].2] 139)) := (HA.out.below hb5).alloc _
  have kf0 : (w5.alloc (.cells #[.int .u64 c1[i].1, .int .i64 c1[i].2] 139)).cell? ⟨w5.heap.size, 1, none⟩ = some (.int .i64 c1[i].2) := (Blk.new _ _ _).cell 1
  have kp3 : (w5.alloc (.cells #[.int .u64 c1[i].1, .int .i64 c1[i].2] 139)).cell? ⟨W.heap.size, 1, none⟩ = some (.int .i64 (n - e)) := A5.p.cell 1
  clear TU A
  by_cases hy : c1[i].2 < (n : Int) - e
  · have hyd : decide (c1[i].2 < (n : Int) - e) = true := by simpa using hy
    have kf1 : (w5.alloc (.cells #[.int .u64 c1[i].1, .int .i64 c1[i].2] 139)).cell? ⟨w5.heap.size, 0, none⟩ = some (.int .u64 c1[i].1) := (Blk.new _ _ _).cell 0
    have kp4 : (w5.alloc (.cells #[.int .u64 c1[i].1, .int .i64 c1[i].2] 139)).cell? ⟨W.heap.size, 0, none⟩ = some (.int .u64 key) := A5.p.cell 0
    obtain ⟨BT, L1, L2, L3⟩ := C.out.low_between hi hmem hy (w5.alloc (.cells #[.int .u64 c1[i].1, .int .i64 c1[i].2] 139))
    unfold lowBy at hlow'
    rw [if_pos hy] at hlow'
    simp only [] at L1 L2 L3 hlow'
    obtain ⟨s, hs⟩ : ∃ s, lowest ((n : Int) - e - c1[i].2) (key - c1[i].1) = s := ⟨_, rfl⟩
    unfold slopeF at BT
    simp only [] at BT
    rw [hs] at BT L1 L2 L3 hlow'
    have HLo := Lib.hid hlow'
    have HA5 := Lib.hid A5
    clear hlow' hs A5
    go_wp2_with fail
    refine BT.mono ?_
    rintro e6 w6 ⟨rfl, hb6⟩
    unfold frV
    have A6 := Lib.hid ((HA5.out.below hb6).alloc (.cells #[.int .u64 s.1, .int .u64 s.2] 122))
    have B10 : Hid (Blk (w6.alloc (.cells #[.int .u64 s.1, .int .u64 s.2] 122)) w6.heap.size 122 #[.int .u64 s.1, .int .u64 s.2]) := Lib.hid (Blk.new _ _ _)
    have BL := below_any F.low s C.out.S.fl L1 (.inr L3) C.out.S.ok.low.ok L2 (w6.alloc (.cells #[.int .u64 s.1, .int .u64 s.2] 122))
    have q0 := A6.out.l.cell 0
    have q1 := A6.out.l.cell 1
    simp only [List.getElem?_toArray, List.getElem?_cons_zero, List.getElem?_cons_succ] at q0 q1
    clear BT L1 L2 L3 kf0 kf1 kp3 kp4
    go_wp2_with fail
    by_cases hlt : ltF F.low s
    · rw [decide_eq_true hlt] at BL
      have HL2 : Hid (s = F.lowWith e key) := Lib.hid (by have := HLo.out; rwa [if_pos hlt] at this)
      refine BL.mono ?_
      rintro e7 w7 ⟨rfl, hb7⟩
      have A7 := Lib.hid (A6.out.below hb7)
      have B7 := B10.out.below hb7
      obtain ⟨z0, z1, z2, z3⟩ := B7.cells2
      obtain ⟨y0, y1, y2, y3⟩ := A7.out.l.cells2
      clear hlt BL q0 q1 B7
      go_wp2_with fail
      exact HKK.out _ _ _ _ _ _ _ _ _ _ _ _ _ _ _ _ _ _ _ _ _ (by rw [← HL2.out]; exact Lib.hid (A7.out.setL HH.out _))
    · rw [decide_eq_false hlt] at BL
      have HL2 : Hid (F.low = F.lowWith e key) := Lib.hid (by have := HLo.out; rwa [if_neg hlt] at this)
      refine BL.mono ?_
      rintro e7 w7 ⟨rfl, hb7⟩
      have A7 := Lib.hid (A6.out.below hb7)
      clear hlt BL q0 q1
      go_wp2_with fail
      exact HKK.out _ _ _ _ _ _ _ _ _ _ _ _ _ _ _ _ _ _ _ _ _ (by rw [← HL2.out]; exact A7)
  · have hyd : decide (c1[i].2 < (n : Int) - e) = false := by simpa using hy
    have HL2 : Hid (F.low = F.lowWith e key) := Lib.hid (by rw [← hlow', lowBy, if_neg hy])
    have A6 := Lib.hid A5
    clear hlow'
    go_wp2_with fail
    exact HKK.out _ _ _ _ _ _ _ _ _ _ _ _ _ _ _ _ _ _ _ _ _ (by rw [← HL2.out]; exact A6)
end Go.Proofs.Ytnccgpdniigekaa
/-
  (*hull.Fit).Add: the greatest slope's candidate.
-/
namespace Go.Proofs.Ytnccgpdniigekaa
open Go.RowKit
set_option linter.unusedVariables false
set_option linter.unusedSimpArgs false

/-- What the search on the lower chain gives for the greatest slope. -/
structure Tp (F : Fit) (e : Int) (key : Int) (s : Fr) : Prop where
  fr : Fr64 s
  ok : OkF s
  pos : s.2 ≠ 0
  top : (if ltF s F.top then s else F.top) = F.topWith e key
theorem AC.downH {W : World} {b : Nat} {e : Int} {F : Fit} {n : Nat} {last : Int} {v0 v1 : Value} {c0 c1 : List Pt} {key : Int} (C : AC W b e F n last v0 v1 c0 c1 key) (hz : 0 < n) (w : World) (M : FitM w b e n last F.low F.top v0 v1 c0 c1) :
    Calls Try.prog 92 #[.pointer (some ⟨b, 0, none⟩), .int .i64 0, .agg #[.int .u64 key, .int .i64 (n + e)]] w fun e' w' =>
      ∃ (x y : Int) (s : Fr), e' = .returned (.agg #[.int .u64 x, .int .i64 y]) ∧ Below w.heap.size w w' ∧ (∀ w, Calls Try.prog 93 #[.agg #[.int .u64 x, .int .i64 y], .agg #[.int .u64 key, .int .i64 (n + e)]] w fun e' w' => e' = .returned (.agg #[.int .u64 s.1, .int .u64 s.2]) ∧ Below w.heap.size w w') ∧ Hid (Tp F e key s) :=
  (C.down w M hz).mono fun e' w' ⟨⟨i, hi, he, A⟩, hb⟩ => by
    obtain ⟨hm, ht⟩ := C.top_at hi A
    obtain ⟨_, L1, L2, L3⟩ := C.top_between hi hm w
    exact ⟨_, _, _, he, hb, fun w => (C.top_between hi hm w).1, Lib.hid ⟨L1, L2, L3, ht⟩⟩
theorem A1.farNew {W w wc : World} {b : Nat} {e n last : Int} {low top : Fr} {v0 v1 : Value} {c0 c1 : List Pt} {key : Int} {g7 g8 : Nat} {l t l' t' : Fr} (h : A1 W b e n last low top v0 v1 c0 c1 key g7 g8 l t w) (HW : FitM W b e n last low top v0 v1 c0 c1)
    (h0 : A1 W b e n last low top v0 v1 c0 c1 key g7 g8 l' t' wc) {g : Nat} (hg : wc.heap.size ≤ g) (x y : Value) : A1 W b e n last low top v0 v1 c0 c1 key g7 g8 l t ((w.setCell ⟨g, 0, none⟩ x).setCell ⟨g, 1, none⟩ y) := by
  have k1 := h0.bel.size
  have k2 := h0.l.lt
  have k3 := h0.t.lt
  have k4 := h0.p.lt
  exact ⟨h.m.chg (((Chg.refl (fun k => k = g) _).setCell (fun _ => rfl) _).setCell (fun _ => rfl) _) (by have := HW.blk.lt; omega) (fun g hg => by have := HW.r0.lt hg; omega) (fun g hg => by have := HW.r1.lt hg; omega),
    h.p.far2 (by omega), h.ne, h.lo7, h.lo8, h.l.far2 (by omega), h.t.far2 (by omega), below_set2 h.bel (by omega)⟩
theorem A1.topAll {W w : World} {b : Nat} {e n last : Int} {low top : Fr} {v0 v1 : Value} {c0 c1 : List Pt} {key : Int} {g7 g8 : Nat} {l t : Fr} (h : A1 W b e n last low top v0 v1 c0 c1 key g7 g8 l t w) :
    A1 W b e n last low top v0 v1 c0 c1 key g7 g8 l t w ∧ w.cell? ⟨W.heap.size, 2, none⟩ = some (.int .u64 key) ∧ w.cell? ⟨W.heap.size, 3, none⟩ = some (.int .i64 (n + e)) := ⟨h, h.p.cell 2, h.p.cell 3⟩
set_option maxHeartbeats 4000000 in
set_option maxRecDepth 10000 in
theorem add_top1 {W : World} {b : Nat} {e : Int} {F : Fit} {n : Nat} {last : Int} {v0 v1 : Value} {c0 c1 : List Pt} {key : Int} {g7 g8 : Nat} (C : Hid (AC W b e F n last v0 v1 c0 c1 key)) (hz : 0 < n) {l : Fr} {wc : World} (HA : Hid (A1 W b e n last F.low F.top v0 v1 c0 c1 key g7 g8 l F.top wc)) (u2 u3 u9 u10 u11 u12 u13 u14 u15 u16 u17 u18 u19 u20 u21 u22 u23 u24 u25 u26 u27 u28 u29 u30 u31 u32 u33 u34 u35 u36 u37 u38 u39 u40 u41 u42 u43 u44 u45 u46 u47 u48 u49 u50 u51 u52 u53 u54 u55 u56 u57 u58 u59 u60 u61 u62 u63 u64 u65 u66 u67 u68 u69 u70 u71 u72 u73 u74 u75 u76 u77 u78 u79 u80 u81 u82 u83 u84 u85 u86 u87 u88 u89 u90 u91 u92 u93 u94 u95 u96 u97 u98 u99 u100 u101 u102 u103 u104 u105 u106 u107 u108 u109 u110 u111 u112 u113 u114 u115 u116 u117 u118 u119 u120 u121 u122 u123 u124 u125 u126 u127 u128 u129 u130 u131 u132 : Value) {K : Act → World → Prop} {Q : Exit → Act → World → Prop}
    (hK : ∀ (g11 : Nat) (s : Fr) (x11 x80 x81 x82 x83 x84 x85 x86 : Value) (wx : World), x11 = .pointer (some ⟨g11, 0, none⟩) → Hid (A1 W b e n last F.low F.top v0 v1 c0 c1 key g7 g8 l F.top wx ∧ Blk wx g11 122 #[.int .u64 s.1, .int .u64 s.2] ∧ Tp F e key s) → K ⟨#[.pointer (some ⟨b, 0, none⟩), .int .u64 key, u2, u3, .bool false, .int .i64 0, .pointer (some ⟨W.heap.size, 0, none⟩), .pointer (some ⟨g7, 0, none⟩), .pointer (some ⟨g8, 0, none⟩), u9, u10, x11, u12, u13, u14, u15, u16, u17, u18, u19, u20, u21, u22, u23, u24, u25, u26, u27, u28, u29, u30, u31, u32, u33, u34, u35, u36, u37, u38, u39, u40, u41, u42, u43, u44, u45, u46, u47, u48, u49, u50, u51, u52, u53, u54, u55, u56, u57, u58, u59, u60, u61, u62, u63, u64, u65, u66, u67, u68, u69, u70, u71, u72, u73, u74, u75, u76, u77, u78, u79, x80, x81, x82, x83, x84, x85, x86, u87, u88, u89, u90, u91, u92, u93, u94, u95, u96, u97, u98, u99, u100, u101, u102, u103, u104, u105, u106, u107, u108, u109, u110, u111, u112, u113, u114, u115, u116, u117, u118, u119, u120, u121, u122, u123, u124, u125, u126, u127, u128, u129, u130, u131, u132], []⟩ wx) :
    Code.wp Try.prog addTop1 (Exit.then K Q) ⟨#[.pointer (some ⟨b, 0, none⟩), .int .u64 key, u2, u3, .bool false, .int .i64 0, .pointer (some ⟨W.heap.size, 0, none⟩), .pointer (some ⟨g7, 0, none⟩), .pointer (some ⟨g8, 0, none⟩), u9, u10, u11, u12, u13, u14, u15, u16, u17, u18, u19, u20, u21, u22, u23, u24, u25, u26, u27, u28, u29, u30, u31, u32, u33, u34, u35, u36, u37, u38, u39, u40, u41, u42, u43, u44, u45, u46, u47, u48, u49, u50, u51, u52, u53, u54, u55, u56, u57, u58, u59, u60, u61, u62, u63, u64, u65, u66, u67, u68, u69, u70, u71, u72, u73, u74, u75, u76, u77, u78, u79, u80, u81, u82, u83, u84, u85, u86, u87, u88, u89, u90, u91, u92, u93, u94, u95, u96, u97, u98, u99, u100, u101, u102, u103, u104, u105, u106, u107, u108, u109, u110, u111, u112, u113, u114, u115, u116, u117, u118, u119, u120, u121, u122, u123, u124, u125, u126, u127, u128, u129, u130, u131, u132], []⟩ wc := by
  conv => arg 2; whnf
  have HKK := Lib.hid hK
  have HA0 : Hid (A1 W b e n last F.low F.top v0 v1 c0 c1 key g7 g8 l F.top wc.drew) := Lib.hid HA.out.drew
  have BN := (Blk.new wc 122 #[.int .u64 0, .int .u64 0]).drew
  clear hK
  go_region_held3 (fun w' => A1 W b e n last F.low F.top v0 v1 c0 c1 key g7 g8 l F.top w' ∧ w'.cell? ⟨W.heap.size, 2, none⟩ = some (.int .u64 key) ∧ w'.cell? ⟨W.heap.size, 3, none⟩ = some (.int .i64 (n + e)))
    (first | exact HA0.out.topAll | exact ((‹A1 _ _ _ _ _ _ _ _ _ _ _ _ _ _ _ _ _ ∧ _›).1.below hb).topAll | exact A1.topAll (A1.alloc (And.left (by assumption)) _) | exact A1.topAll (A1.alloc A6.out _) | exact A1.topAll (A1.farNew (And.left (by assumption)) C.out.H HA.out (by omega) _ _) | exact A1.topAll (A1.farNew (And.left (by assumption)) C.out.H HA.out (show wc.heap.size ≤ _ from hb0.size) _ _))
    (first | (go_at_call 92; refine (C.out.downH hz _ ?_).mono ?_; (exact HA0.out.m); rintro e5 w5 ⟨px, py, s, rfl, hb, BT, HT⟩; have hb0 := hb) | (go_at_call 92; refine (C.out.downH hz _ ?_).mono ?_; (exact (HA0.out.alloc _).m); rintro e5 w5 ⟨px, py, s, rfl, hb, BT, HT⟩; have hb0 := hb; have YB := BN.below hb; obtain ⟨z0, z1, z2, z3⟩ := YB.cells2) | (go_at_call 93; have YC := YB; (with_reducible refine (BT w5).mono ?_); rintro e6 w6 ⟨rfl, hb⟩; have A6 := Lib.hid ((‹A1 _ _ _ _ _ _ _ _ _ _ _ _ _ _ _ _ _ ∧ _›).1.below hb); have Y6 := YC.below hb; obtain ⟨z4, z5, z6, z7⟩ := Y6.cells2) | (go_at_call 93; (with_reducible refine (BT w5).mono ?_); rintro e6 w6 ⟨rfl, hb⟩; have A6 := Lib.hid ((‹A1 _ _ _ _ _ _ _ _ _ _ _ _ _ _ _ _ _ ∧ _›).1.below hb)) | (go_at_call 93; (with_reducible refine (BT (w5.alloc _)).mono ?_); rintro e6 w6 ⟨rfl, hb⟩; have A6 := Lib.hid ((‹A1 _ _ _ _ _ _ _ _ _ _ _ _ _ _ _ _ _ ∧ _›).1.below hb); have Y6 := (Blk.new w5 _ _).below hb; obtain ⟨z4, z5, z6, z7⟩ := Y6.cells2))
  all_goals exact HKK.out _ s _ _ _ _ _ _ _ _ _ rfl (Lib.hid ⟨And.left (by assumption), by first | exact Blk.new _ _ _ | exact Y6.set2, HT.out⟩)
set_option maxHeartbeats 4000000 in
set_option maxRecDepth 10000 in
theorem add_top2 {W : World} {b : Nat} {e : Int} {F : Fit} {n : Nat} {last : Int} {v0 v1 : Value} {c0 c1 : List Pt} {key : Int} {g7 g8 : Nat} (C : Hid (AC W b e F n last v0 v1 c0 c1 key)) {l s : Fr} {g11 : Nat} {wc : World} (HA : Hid (A1 W b e n last F.low F.top v0 v1 c0 c1 key g7 g8 l F.top wc ∧ Blk wc g11 122 #[.int .u64 s.1, .int .u64 s.2] ∧ Tp F e key s)) (u2 u3 u9 u10 u12 u13 u14 u15 u16 u17 u18 u19 u20 u21 u22 u23 u24 u25 u26 u27 u28 u29 u30 u31 u32 u33 u34 u35 u36 u37 u38 u39 u40 u41 u42 u43 u44 u45 u46 u47 u48 u49 u50 u51 u52 u53 u54 u55 u56 u57 u58 u59 u60 u61 u62 u63 u64 u65 u66 u67 u68 u69 u70 u71 u72 u73 u74 u75 u76 u77 u78 u79 u80 u81 u82 u83 u84 u85 u86 u87 u88 u89 u90 u91 u92 u93 u94 u95 u96 u97 u98 u99 u100 u101 u102 u103 u104 u105 u106 u107 u108 u109 u110 u111 u112 u113 u114 u115 u116 u117 u118 u119 u120 u121 u122 u123 u124 u125 u126 u127 u128 u129 u130 u131 u132 : Value) {K : Act → World → Prop} {Q : Exit → Act → World → Prop}
    (hK : ∀ (x87 x88 x89 x90 : Value) (wx : World), Hid (A1 W b e n last F.low F.top v0 v1 c0 c1 key g7 g8 l (F.topWith e key) wx) → K ⟨#[.pointer (some ⟨b, 0, none⟩), .int .u64 key, u2, u3, .bool false, .int .i64 0, .pointer (some ⟨W.heap.size, 0, none⟩), .pointer (some ⟨g7, 0, none⟩), .pointer (some ⟨g8, 0, none⟩), u9, u10, .pointer (some ⟨g11, 0, none⟩), u12, u13, u14, u15, u16, u17, u18, u19, u20, u21, u22, u23, u24, u25, u26, u27, u28, u29, u30, u31, u32, u33, u34, u35, u36, u37, u38, u39, u40, u41, u42, u43, u44, u45, u46, u47, u48, u49, u50, u51, u52, u53, u54, u55, u56, u57, u58, u59, u60, u61, u62, u63, u64, u65, u66, u67, u68, u69, u70, u71, u72, u73, u74, u75, u76, u77, u78, u79, u80, u81, u82, u83, u84, u85, u86, x87, x88, x89, x90, u91, u92, u93, u94, u95, u96, u97, u98, u99, u100, u101, u102, u103, u104, u105, u106, u107, u108, u109, u110, u111, u112, u113, u114, u115, u116, u117, u118, u119, u120, u121, u122, u123, u124, u125, u126, u127, u128, u129, u130, u131, u132], []⟩ wx) :
    Code.wp Try.prog addTop2 (Exit.then K Q) ⟨#[.pointer (some ⟨b, 0, none⟩), .int .u64 key, u2, u3, .bool false, .int .i64 0, .pointer (some ⟨W.heap.size, 0, none⟩), .pointer (some ⟨g7, 0, none⟩), .pointer (some ⟨g8, 0, none⟩), u9, u10, .pointer (some ⟨g11, 0, none⟩), u12, u13, u14, u15, u16, u17, u18, u19, u20, u21, u22, u23, u24, u25, u26, u27, u28, u29, u30, u31, u32, u33, u34, u35, u36, u37, u38, u39, u40, u41, u42, u43, u44, u45, u46, u47, u48, u49, u50, u51, u52, u53, u54, u55, u56, u57, u58, u59, u60, u61, u62, u63, u64, u65, u66, u67, u68, u69, u70, u71, u72, u73, u74, u75, u76, u77, u78, u79, u80, u81, u82, u83, u84, u85, u86, u87, u88, u89, u90, u91, u92, u93, u94, u95, u96, u97, u98, u99, u100, u101, u102, u103, u104, u105, u106, u107, u108, u109, u110, u111, u112, u113, u114, u115, u116, u117, u118, u119, u120, u121, u122, u123, u124, u125, u126, u127, u128, u129, u130, u131, u132], []⟩ wc := by
  conv => arg 2; whnf
  have HKK := Lib.hid hK
  have HH := Lib.hid C.out.H
  obtain ⟨k0, k1, _, _⟩ := HA.out.2.1.cells2
  obtain ⟨k2, k3, _, _⟩ := HA.out.1.t.cells2
  have BL := below_any s F.top HA.out.2.2.fr C.out.S.ft (.inl HA.out.2.2.pos) HA.out.2.2.ok C.out.S.ok.top.ok wc
  clear hK
  go_wp2_with fail
  by_cases hlt : ltF s F.top
  · rw [decide_eq_true hlt] at BL
    have HL2 : Hid (s = F.topWith e key) := Lib.hid (by have := HA.out.2.2.top; rwa [if_pos hlt] at this)
    refine BL.mono ?_
    rintro e7 w7 ⟨rfl, hb7⟩
    have A7 := Lib.hid (HA.out.1.below hb7)
    obtain ⟨z0, z1, z2, z3⟩ := (HA.out.2.1.below hb7).cells2
    obtain ⟨y0, y1, y2, y3⟩ := A7.out.t.cells2
    clear hlt BL k0 k1 k2 k3
    go_wp2_with fail
    exact HKK.out _ _ _ _ _ (by rw [← HL2.out]; exact Lib.hid (A7.out.setT HH.out _))
  · rw [decide_eq_false hlt] at BL
    have HL2 : Hid (F.top = F.topWith e key) := Lib.hid (by have := HA.out.2.2.top; rwa [if_neg hlt] at this)
    refine BL.mono ?_
    rintro e7 w7 ⟨rfl, hb7⟩
    have A7 := Lib.hid (HA.out.1.below hb7)
    clear hlt BL k0 k1 k2 k3
    go_wp2_with fail
    exact HKK.out _ _ _ _ _ (by rw [← HL2.out]; exact A7)
set_option maxHeartbeats 4000000 in
set_option maxRecDepth 10000 in
theorem add_end {W : World} {b : Nat} {e : Int} {F : Fit} {n : Nat} {last : Int} {v0 v1 : Value} {c0 c1 : List Pt} {key : Int} {g7 g8 : Nat} (C : Hid (AC W b e F n last v0 v1 c0 c1 key)) {wc : World} (HA : Hid (A1 W b e n last F.low F.top v0 v1 c0 c1 key g7 g8 (F.lowWith e key) (F.topWith e key) wc)) (u2 u3 u9 u10 u11 u12 u13 u14 u15 u16 u17 u18 u19 u20 u21 u22 u23 u24 u25 u26 u27 u28 u29 u30 u31 u32 u33 u34 u35 u36 u37 u38 u39 u40 u41 u42 u43 u44 u45 u46 u47 u48 u49 u50 u51 u52 u53 u54 u55 u56 u57 u58 u59 u60 u61 u62 u63 u64 u65 u66 u67 u68 u69 u70 u71 u72 u73 u74 u75 u76 u77 u78 u79 u80 u81 u82 u83 u84 u85 u86 u87 u88 u89 u90 u91 u92 u93 u94 u95 u96 u97 u98 u99 u100 u101 u102 u103 u104 u105 u106 u107 u108 u109 u110 u111 u112 u113 u114 u115 u116 u117 u118 u119 u120 u121 u122 u123 u124 u125 u126 u127 u128 u129 u130 u131 u132 : Value) {K : Act → World → Prop}
    (hK : ¬ ltF (F.topWith e key) (F.lowWith e key) → ∀ (x91 x92 x93 : Value) (wx : World), Hid (A1 W b e n last F.low F.top v0 v1 c0 c1 key g7 g8 (F.lowWith e key) (F.topWith e key) wx) → K ⟨#[.pointer (some ⟨b, 0, none⟩), .int .u64 key, u2, u3, .bool false, .int .i64 0, .pointer (some ⟨W.heap.size, 0, none⟩), .pointer (some ⟨g7, 0, none⟩), .pointer (some ⟨g8, 0, none⟩), u9, u10, u11, u12, u13, u14, u15, u16, u17, u18, u19, u20, u21, u22, u23, u24, u25, u26, u27, u28, u29, u30, u31, u32, u33, u34, u35, u36, u37, u38, u39, u40, u41, u42, u43, u44, u45, u46, u47, u48, u49, u50, u51, u52, u53, u54, u55, u56, u57, u58, u59, u60, u61, u62, u63, u64, u65, u66, u67, u68, u69, u70, u71, u72, u73, u74, u75, u76, u77, u78, u79, u80, u81, u82, u83, u84, u85, u86, u87, u88, u89, u90, x91, x92, x93, u94, u95, u96, u97, u98, u99, u100, u101, u102, u103, u104, u105, u106, u107, u108, u109, u110, u111, u112, u113, u114, u115, u116, u117, u118, u119, u120, u121, u122, u123, u124, u125, u126, u127, u128, u129, u130, u131, u132], []⟩ wx) :
    Code.wp Try.prog addEnd (Exit.then K (bodyPost Try.prog Try.f81 (AddPost W b e F v0 v1 key))) ⟨#[.pointer (some ⟨b, 0, none⟩), .int .u64 key, u2, u3, .bool false, .int .i64 0, .pointer (some ⟨W.heap.size, 0, none⟩), .pointer (some ⟨g7, 0, none⟩), .pointer (some ⟨g8, 0, none⟩), u9, u10, u11, u12, u13, u14, u15, u16, u17, u18, u19, u20, u21, u22, u23, u24, u25, u26, u27, u28, u29, u30, u31, u32, u33, u34, u35, u36, u37, u38, u39, u40, u41, u42, u43, u44, u45, u46, u47, u48, u49, u50, u51, u52, u53, u54, u55, u56, u57, u58, u59, u60, u61, u62, u63, u64, u65, u66, u67, u68, u69, u70, u71, u72, u73, u74, u75, u76, u77, u78, u79, u80, u81, u82, u83, u84, u85, u86, u87, u88, u89, u90, u91, u92, u93, u94, u95, u96, u97, u98, u99, u100, u101, u102, u103, u104, u105, u106, u107, u108, u109, u110, u111, u112, u113, u114, u115, u116, u117, u118, u119, u120, u121, u122, u123, u124, u125, u126, u127, u128, u129, u130, u131, u132], []⟩ wc := by
  conv => arg 2; whnf
  have HKK := Lib.hid hK
  obtain ⟨k0, k1, _, _⟩ := HA.out.l.cells2
  obtain ⟨k2, k3, _, _⟩ := HA.out.t.cells2
  have LO := C.out.S.lowOk (key := key) C.out.hl
  have BL := below_any (F.topWith e key) (F.lowWith e key) (C.out.S.top64 C.out.hk C.out.hl) (C.out.S.low64 C.out.hk C.out.hl) (.inr LO.2) (C.out.S.topOk C.out.hl).ok LO.1.ok wc
  clear hK LO
  go_wp2_with fail
  by_cases hlt : ltF (F.topWith e key) (F.lowWith e key)
  · rw [decide_eq_true hlt] at BL
    refine BL.mono ?_
    rintro e7 w7 ⟨rfl, hb7⟩
    have A7 := Lib.hid (C.out.refused (HA.out.below hb7) hlt)
    clear hlt BL k0 k1 k2 k3
    go_wp2_with fail
    go_ret2
    exact A7.out
  · rw [decide_eq_false hlt] at BL
    refine BL.mono ?_
    rintro e7 w7 ⟨rfl, hb7⟩
    have A7 := Lib.hid (HA.out.below hb7)
    have HLT := Lib.hid hlt
    clear hlt BL k0 k1 k2 k3
    go_wp2_with fail
    exact HKK.out HLT.out _ _ _ _ A7
end Go.Proofs.Ytnccgpdniigekaa
/-
  (*hull.Fit).Add: the chains.
-/
namespace Go.Proofs.Ytnccgpdniigekaa
open Go.RowKit
set_option linter.unusedVariables false
set_option linter.unusedSimpArgs false

/-- The region of that number. -/
def regAt (i : Nat) : Code → Code
  | .region id ops d => if id = i then .region id ops d else .skip
  | .seq a b => match regAt i a with
    | .skip => regAt i b
    | c => c
  | .cond _ a b => match regAt i a with
    | .skip => regAt i b
    | c => c
  | .block _ c => regAt i c
  | .loop c => regAt i c
  | .scope c => regAt i c
  | _ => .skip
noncomputable def addReg : Code := regAt 19 addLoop
/-- What 'laid' leaves of a chain. -/
structure LP (w w5 : World) (v v' : Value) (d : List Pt) : Prop where
  row : Row w5 v' d
  chg : Chg (fun k => v.ownBlock = some k) w w5
  own : ∀ g, v'.ownBlock = some g → v.ownBlock = some g ∨ w.heap.size ≤ g
theorem chain_cells {w w5 : World} {v : Value} {b i : Nat} {t : TypeId} {cs : Array Value} (hb : Blk w b t cs) (c5 : Chg (fun k => v.ownBlock = some k) w.drew w5) (hne : v.ownBlock ≠ some b) (hv : w.cell? ⟨b, i, none⟩ = some v) :
    w5.cell? ⟨b, i, none⟩ = some v ∧ w5.frozen? ⟨b, i, none⟩ = false := by
  have k : Blk w5 b t cs := hb.drew.chg c5 hne
  exact ⟨by rw [k.cell, ← hb.cell]; exact hv, k.free i⟩
set_option maxHeartbeats 4000000 in
set_option maxRecDepth 10000 in
theorem add_round0 {b gp : Nat} {v : Value} {d : List Pt} {p : Pt} (hp : PtOk p) (hc : ∀ u ∈ d, PtOk u) (hx : d.Pairwise (fun u v => u.1 < v.1)) (hxp : ∀ u ∈ d, u.1 < p.1) (hlen : (d.length + 1) * 16 ≤ 140737488355328) {w : World} (R : Row w v d)
    (hne : v.ownBlock ≠ some b) {t : TypeId} {cs : Array Value} (hb : Blk w b t cs) (hv : w.cell? ⟨b, 7, none⟩ = some v) (h0 : w.cell? ⟨gp, 0, none⟩ = some (.int .u64 p.1)) (h1 : w.cell? ⟨gp, 1, none⟩ = some (.int .i64 p.2)) (u1 u2 u3 u4 u5 u7 u8 u9 u10 u11 u13 u14 u15 u16 u17 u18 u19 u20 u21 u22 u23 u24 u25 u26 u27 u28 u29 u30 u31 u32 u33 u34 u35 u36 u37 u38 u39 u40 u41 u42 u43 u44 u45 u46 u47 u48 u49 u50 u51 u52 u53 u54 u55 u56 u57 u58 u59 u60 u61 u62 u63 u64 u65 u66 u67 u68 u69 u70 u71 u72 u73 u74 u75 u76 u77 u78 u79 u80 u81 u82 u83 u84 u85 u86 u87 u88 u89 u90 u91 u92 u93 u94 u95 u96 u97 u98 u99 u100 u101 u102 u103 u104 u105 u106 u107 u108 u109 u110 u111 u112 u113 u114 u115 u116 u117 u118 u119 u120 u121 u122 u123 u124 u125 u126 u127 u128 u129 u130 u131 u132 : Value) {Q : Exit → Act → World → Prop}
    (hQ : ∀ (v' : Value) (x97 x98 x99 x100 x101 x102 x103 x104 x105 x106 x107 x108 x109 x110 x111 x112 : Value) (w5 : World), LP w w5 v v' (layL (sgn 0) p d) → Q .normal ⟨#[.pointer (some ⟨b, 0, none⟩), u1, u2, u3, u4, u5, .pointer (some ⟨gp, 0, none⟩), u7, u8, u9, u10, u11, .int .i64 0, u13, u14, u15, u16, u17, u18, u19, u20, u21, u22, u23, u24, u25, u26, u27, u28, u29, u30, u31, u32, u33, u34, u35, u36, u37, u38, u39, u40, u41, u42, u43, u44, u45, u46, u47, u48, u49, u50, u51, u52, u53, u54, u55, u56, u57, u58, u59, u60, u61, u62, u63, u64, u65, u66, u67, u68, u69, u70, u71, u72, u73, u74, u75, u76, u77, u78, u79, u80, u81, u82, u83, u84, u85, u86, u87, u88, u89, u90, u91, u92, u93, u94, u95, u96, x97, x98, x99, x100, x101, x102, x103, x104, x105, x106, x107, x108, x109, x110, x111, x112, u113, u114, u115, u116, u117, u118, u119, u120, u121, u122, u123, u124, u125, u126, u127, u128, u129, u130, u131, u132], []⟩ (w5.setCell ⟨b, 7, none⟩ v')) :
    Code.wp Try.prog addReg Q ⟨#[.pointer (some ⟨b, 0, none⟩), u1, u2, u3, u4, u5, .pointer (some ⟨gp, 0, none⟩), u7, u8, u9, u10, u11, .int .i64 0, u13, u14, u15, u16, u17, u18, u19, u20, u21, u22, u23, u24, u25, u26, u27, u28, u29, u30, u31, u32, u33, u34, u35, u36, u37, u38, u39, u40, u41, u42, u43, u44, u45, u46, u47, u48, u49, u50, u51, u52, u53, u54, u55, u56, u57, u58, u59, u60, u61, u62, u63, u64, u65, u66, u67, u68, u69, u70, u71, u72, u73, u74, u75, u76, u77, u78, u79, u80, u81, u82, u83, u84, u85, u86, u87, u88, u89, u90, u91, u92, u93, u94, u95, u96, u97, u98, u99, u100, u101, u102, u103, u104, u105, u106, u107, u108, u109, u110, u111, u112, u113, u114, u115, u116, u117, u118, u119, u120, u121, u122, u123, u124, u125, u126, u127, u128, u129, u130, u131, u132], []⟩ w := by
  conv => arg 2; whnf
  have HQ := Lib.hid hQ
  have LC := laid_row v d p 0 (by omega) hp hc hx hxp hlen w.drew R
  have H0 := Lib.hid hne
  have HB := Lib.hid hb
  have HV := Lib.hid hv
  have y0 : w.drew.cell? ⟨b, 7, none⟩ = some v := hv
  have y1 : w.drew.cell? ⟨gp, 0, none⟩ = some (.int .u64 p.1) := h0
  have y2 : w.drew.cell? ⟨gp, 1, none⟩ = some (.int .i64 p.2) := h1
  clear hp hc hx hxp hlen R hne hQ hb hv h0 h1
  refine wp_region_noPanic ?_
  go_region_with (go_at_call 95; refine LC.mono ?_; rintro e5 w5 ⟨v', rfl, r5, c5, o5⟩; obtain ⟨z0, z1⟩ := chain_cells HB.out c5 H0.out HV.out; obtain ⟨Av, cv, rfl⟩ := r5.val)
  all_goals exact HQ.out _ _ _ _ _ _ _ _ _ _ _ _ _ _ _ _ _ w5 ⟨r5, c5.of_drew, o5⟩
set_option maxHeartbeats 4000000 in
set_option maxRecDepth 10000 in
theorem add_round1 {b gp : Nat} {v : Value} {d : List Pt} {p : Pt} (hp : PtOk p) (hc : ∀ u ∈ d, PtOk u) (hx : d.Pairwise (fun u v => u.1 < v.1)) (hxp : ∀ u ∈ d, u.1 < p.1) (hlen : (d.length + 1) * 16 ≤ 140737488355328) {w : World} (R : Row w v d)
    (hne : v.ownBlock ≠ some b) {t : TypeId} {cs : Array Value} (hb : Blk w b t cs) (hv : w.cell? ⟨b, 8, none⟩ = some v) (h0 : w.cell? ⟨gp, 2, none⟩ = some (.int .u64 p.1)) (h1 : w.cell? ⟨gp, 3, none⟩ = some (.int .i64 p.2)) (u1 u2 u3 u4 u5 u7 u8 u9 u10 u11 u13 u14 u15 u16 u17 u18 u19 u20 u21 u22 u23 u24 u25 u26 u27 u28 u29 u30 u31 u32 u33 u34 u35 u36 u37 u38 u39 u40 u41 u42 u43 u44 u45 u46 u47 u48 u49 u50 u51 u52 u53 u54 u55 u56 u57 u58 u59 u60 u61 u62 u63 u64 u65 u66 u67 u68 u69 u70 u71 u72 u73 u74 u75 u76 u77 u78 u79 u80 u81 u82 u83 u84 u85 u86 u87 u88 u89 u90 u91 u92 u93 u94 u95 u96 u97 u98 u99 u100 u101 u102 u103 u104 u105 u106 u107 u108 u109 u110 u111 u112 u113 u114 u115 u116 u117 u118 u119 u120 u121 u122 u123 u124 u125 u126 u127 u128 u129 u130 u131 u132 : Value) {Q : Exit → Act → World → Prop}
    (hQ : ∀ (v' : Value) (x97 x98 x99 x100 x101 x102 x103 x104 x105 x106 x107 x108 x109 x110 x111 x112 : Value) (w5 : World), LP w w5 v v' (layL (sgn 1) p d) → Q .normal ⟨#[.pointer (some ⟨b, 0, none⟩), u1, u2, u3, u4, u5, .pointer (some ⟨gp, 0, none⟩), u7, u8, u9, u10, u11, .int .i64 1, u13, u14, u15, u16, u17, u18, u19, u20, u21, u22, u23, u24, u25, u26, u27, u28, u29, u30, u31, u32, u33, u34, u35, u36, u37, u38, u39, u40, u41, u42, u43, u44, u45, u46, u47, u48, u49, u50, u51, u52, u53, u54, u55, u56, u57, u58, u59, u60, u61, u62, u63, u64, u65, u66, u67, u68, u69, u70, u71, u72, u73, u74, u75, u76, u77, u78, u79, u80, u81, u82, u83, u84, u85, u86, u87, u88, u89, u90, u91, u92, u93, u94, u95, u96, x97, x98, x99, x100, x101, x102, x103, x104, x105, x106, x107, x108, x109, x110, x111, x112, u113, u114, u115, u116, u117, u118, u119, u120, u121, u122, u123, u124, u125, u126, u127, u128, u129, u130, u131, u132], []⟩ (w5.setCell ⟨b, 8, none⟩ v')) :
    Code.wp Try.prog addReg Q ⟨#[.pointer (some ⟨b, 0, none⟩), u1, u2, u3, u4, u5, .pointer (some ⟨gp, 0, none⟩), u7, u8, u9, u10, u11, .int .i64 1, u13, u14, u15, u16, u17, u18, u19, u20, u21, u22, u23, u24, u25, u26, u27, u28, u29, u30, u31, u32, u33, u34, u35, u36, u37, u38, u39, u40, u41, u42, u43, u44, u45, u46, u47, u48, u49, u50, u51, u52, u53, u54, u55, u56, u57, u58, u59, u60, u61, u62, u63, u64, u65, u66, u67, u68, u69, u70, u71, u72, u73, u74, u75, u76, u77, u78, u79, u80, u81, u82, u83, u84, u85, u86, u87, u88, u89, u90, u91, u92, u93, u94, u95, u96, u97, u98, u99, u100, u101, u102, u103, u104, u105, u106, u107, u108, u109, u110, u111, u112, u113, u114, u115, u116, u117, u118, u119, u120, u121, u122, u123, u124, u125, u126, u127, u128, u129, u130, u131, u132], []⟩ w := by
  conv => arg 2; whnf
  have HQ := Lib.hid hQ
  have LC := laid_row v d p 1 (by omega) hp hc hx hxp hlen w.drew R
  have H0 := Lib.hid hne
  have HB := Lib.hid hb
  have HV := Lib.hid hv
  have y0 : w.drew.cell? ⟨b, 8, none⟩ = some v := hv
  have y1 : w.drew.cell? ⟨gp, 2, none⟩ = some (.int .u64 p.1) := h0
  have y2 : w.drew.cell? ⟨gp, 3, none⟩ = some (.int .i64 p.2) := h1
  clear hp hc hx hxp hlen R hne hQ hb hv h0 h1
  refine wp_region_noPanic ?_
  go_region_with (go_at_call 95; refine LC.mono ?_; rintro e5 w5 ⟨v', rfl, r5, c5, o5⟩; obtain ⟨z0, z1⟩ := chain_cells HB.out c5 H0.out HV.out; obtain ⟨Av, cv, rfl⟩ := r5.val)
  all_goals exact HQ.out _ _ _ _ _ _ _ _ _ _ _ _ _ _ _ _ _ w5 ⟨r5, c5.of_drew, o5⟩
/-- Between the two rounds. -/
structure A15 (W : World) (b : Nat) (e n last : Int) (low top : Fr) (v0 v1 v0' : Value) (d0 c1 : List Pt) (key : Int) (g7 g8 : Nat) (l t : Fr) (w : World) : Prop where
  m : FitM w b e n last low top v0' v1 d0 c1
  p : Blk w W.heap.size 140 #[.int .u64 key, .int .i64 (n - e), .int .u64 key, .int .i64 (n + e)]
  ne : g7 ≠ g8
  lo7 : W.heap.size < g7
  lo8 : W.heap.size < g8
  l : Blk w g7 122 #[.int .u64 l.1, .int .u64 l.2]
  t : Blk w g8 122 #[.int .u64 t.1, .int .u64 t.2]
  chg : Chg (fun k => k = b ∨ v0.ownBlock = some k ∨ v1.ownBlock = some k) W w
  o0 : ∀ g, v0'.ownBlock = some g → v0.ownBlock = some g ∨ W.heap.size ≤ g
  off : ∀ g, v0'.ownBlock = some g → v1.ownBlock ≠ some g
section
variable {W wc w w5 w6 : World} {b : Nat} {e n last : Int} {low top : Fr} {v0 v1 v0' v1' : Value} {c0 c1 d0 d1 : List Pt} {key : Int} {g7 g8 : Nat} {l t : Fr}
theorem set_blk7 {x0 x1 x2 x3 x4 x5 x6 x7 x8 y : Value} (h : Blk w b 137 #[x0, x1, x2, x3, x4, x5, x6, x7, x8]) : Blk (w.setCell ⟨b, 7, none⟩ y) b 137 #[x0, x1, x2, x3, x4, x5, x6, y, x8] := h.set 7 y
theorem set_blk8 {x0 x1 x2 x3 x4 x5 x6 x7 x8 y : Value} (h : Blk w b 137 #[x0, x1, x2, x3, x4, x5, x6, x7, x8]) : Blk (w.setCell ⟨b, 8, none⟩ y) b 137 #[x0, x1, x2, x3, x4, x5, x6, x7, y] := h.set 8 y
theorem A1.round0 (h : A1 W b e n last low top v0 v1 c0 c1 key g7 g8 l t wc) (HW : FitM W b e n last low top v0 v1 c0 c1) (off : ∀ g, v0.ownBlock = some g → v1.ownBlock ≠ some g) (L : LP wc w5 v0 v0' d0) :
    A15 W b e n last low top v0 v1 v0' d0 c1 key g7 g8 l t (w5.setCell ⟨b, 7, none⟩ v0') := by
  have hs := h.bel.size
  have hbl := HW.blk.lt
  have nb : v0'.ownBlock ≠ some b := by
    intro hq
    rcases L.own b hq with k | k
    · exact HW.ne0 k
    · omega
  have lt0 : ∀ g, v0.ownBlock = some g → g < W.heap.size := fun g hg => HW.r0.lt hg
  have lt1 : ∀ g, v1.ownBlock = some g → g < W.heap.size := fun g hg => HW.r1.lt hg
  have ne1 := HW.ne1
  have far : ∀ {g : Nat} {t : TypeId} {cs : Array Value}, Blk wc g t cs → W.heap.size ≤ g → Blk (w5.setCell ⟨b, 7, none⟩ v0') g t cs := by
    intro g t cs hb hg
    exact (hb.chg L.chg (fun k => by have := lt0 g k; omega)).far _ (by simp; omega)
  have h7 := h.lo7
  have h8 := h.lo8
  refine ⟨⟨set_blk7 (h.m.blk.chg L.chg HW.ne0), ?_, ?_⟩, far h.p (Nat.le_refl _), h.ne, h.lo7, h.lo8, far h.l (by omega), far h.t (by omega), ?_, ?_, ?_⟩
  · exact own_far L.row nb _
  · exact own_far (h.m.r1.chg L.chg (fun g hg k => off g k hg)) ne1 _
  · refine Chg.setCell ?_ (fun _ => .inl rfl) _
    exact ((Chg.of_below h.bel).mono (fun _ _ h => h.elim)).trans L.chg (fun i hi k => .inr (.inl k))
  · intro g hg
    rcases L.own g hg with k | k
    · exact .inl k
    · exact .inr (by omega)
  · intro g hg k
    rcases L.own g hg with m | m
    · exact off g m k
    · have := lt1 g k; omega
theorem A15.round1 (h : A15 W b e n last low top v0 v1 v0' d0 c1 key g7 g8 l t w) (HW : FitM W b e n last low top v0 v1 c0 c1) (L : LP w w6 v1 v1' d1) :
    A2 W b e n last low top v0 v1 v0' v1' d0 d1 g7 g8 l t (w6.setCell ⟨b, 8, none⟩ v1') := by
  have hs := h.chg.size
  have hbl := HW.blk.lt
  have nb : v1'.ownBlock ≠ some b := by
    intro hq
    rcases L.own b hq with k | k
    · exact HW.ne1 k
    · omega
  have lt1 : ∀ g, v1.ownBlock = some g → g < W.heap.size := fun g hg => HW.r1.lt hg
  have ltq : ∀ g, v0'.ownBlock = some g → g < w.heap.size := fun g hg => h.m.r0.lt hg
  have far : ∀ {g : Nat} {t : TypeId} {cs : Array Value}, Blk w g t cs → W.heap.size ≤ g → Blk (w6.setCell ⟨b, 8, none⟩ v1') g t cs := by
    intro g t cs hb hg
    exact (hb.chg L.chg (fun k => by have := lt1 g k; omega)).far _ (by simp; omega)
  have h7 := h.lo7
  have h8 := h.lo8
  refine ⟨⟨set_blk8 (h.m.blk.chg L.chg HW.ne1), ?_, ?_⟩, h.ne, h.lo7, h.lo8, far h.l (by omega), far h.t (by omega), ?_, h.o0, ?_, ?_⟩
  · exact own_far (h.m.r0.chg L.chg (fun g hg k => h.off g hg k)) h.m.ne0 _
  · exact own_far L.row nb _
  · refine Chg.setCell ?_ (fun _ => .inl rfl) _
    exact h.chg.trans L.chg (fun i hi k => .inr (.inr k))
  · intro g hg
    rcases L.own g hg with k | k
    · exact .inl k
    · exact .inr (by omega)
  · intro g hg k
    rcases L.own g k with m | m
    · exact h.off g hg m
    · have := ltq g hg; omega
end
end Go.Proofs.Ytnccgpdniigekaa
/-
  (*hull.Fit).Add: the chains, all of them.
-/
namespace Go.Proofs.Ytnccgpdniigekaa
open Go.RowKit
set_option linter.unusedVariables false
set_option linter.unusedSimpArgs false

set_option maxHeartbeats 4000000 in
set_option maxRecDepth 10000 in
theorem add_loop {W : World} {b : Nat} {e : Int} {F : Fit} {n : Nat} {last : Int} {v0 v1 : Value} {c0 c1 : List Pt} {key : Int} {g7 g8 : Nat} (C : Hid (AC W b e F n last v0 v1 c0 c1 key)) {l t : Fr} {wc : World} (HA : Hid (A1 W b e n last F.low F.top v0 v1 c0 c1 key g7 g8 l t wc)) (u2 u3 u9 u10 u11 u12 u13 u14 u15 u16 u17 u18 u19 u20 u21 u22 u23 u24 u25 u26 u27 u28 u29 u30 u31 u32 u33 u34 u35 u36 u37 u38 u39 u40 u41 u42 u43 u44 u45 u46 u47 u48 u49 u50 u51 u52 u53 u54 u55 u56 u57 u58 u59 u60 u61 u62 u63 u64 u65 u66 u67 u68 u69 u70 u71 u72 u73 u74 u75 u76 u77 u78 u79 u80 u81 u82 u83 u84 u85 u86 u87 u88 u89 u90 u91 u92 u93 u94 u95 u96 u97 u98 u99 u100 u101 u102 u103 u104 u105 u106 u107 u108 u109 u110 u111 u112 u113 u114 u115 u116 u117 u118 u119 u120 u121 u122 u123 u124 u125 u126 u127 u128 u129 u130 u131 u132 : Value) {K : Act → World → Prop} {Q : Exit → Act → World → Prop}
    (hK : ∀ (v0' v1' : Value) (x12 x94 x95 x96 x97 x98 x99 x100 x101 x102 x103 x104 x105 x106 x107 x108 x109 x110 x111 x112 x113 : Value) (wx : World), Hid (A2 W b e n last F.low F.top v0 v1 v0' v1' (layL (-1) (key, (n : Int) - e) c0) (layL 1 (key, (n : Int) + e) c1) g7 g8 l t wx) → K ⟨#[.pointer (some ⟨b, 0, none⟩), .int .u64 key, u2, u3, .bool false, .int .i64 0, .pointer (some ⟨W.heap.size, 0, none⟩), .pointer (some ⟨g7, 0, none⟩), .pointer (some ⟨g8, 0, none⟩), u9, u10, u11, x12, u13, u14, u15, u16, u17, u18, u19, u20, u21, u22, u23, u24, u25, u26, u27, u28, u29, u30, u31, u32, u33, u34, u35, u36, u37, u38, u39, u40, u41, u42, u43, u44, u45, u46, u47, u48, u49, u50, u51, u52, u53, u54, u55, u56, u57, u58, u59, u60, u61, u62, u63, u64, u65, u66, u67, u68, u69, u70, u71, u72, u73, u74, u75, u76, u77, u78, u79, u80, u81, u82, u83, u84, u85, u86, u87, u88, u89, u90, u91, u92, u93, x94, x95, x96, x97, x98, x99, x100, x101, x102, x103, x104, x105, x106, x107, x108, x109, x110, x111, x112, x113, u114, u115, u116, u117, u118, u119, u120, u121, u122, u123, u124, u125, u126, u127, u128, u129, u130, u131, u132], []⟩ wx) :
    Code.wp Try.prog addLoop (Exit.then K Q) ⟨#[.pointer (some ⟨b, 0, none⟩), .int .u64 key, u2, u3, .bool false, .int .i64 0, .pointer (some ⟨W.heap.size, 0, none⟩), .pointer (some ⟨g7, 0, none⟩), .pointer (some ⟨g8, 0, none⟩), u9, u10, u11, u12, u13, u14, u15, u16, u17, u18, u19, u20, u21, u22, u23, u24, u25, u26, u27, u28, u29, u30, u31, u32, u33, u34, u35, u36, u37, u38, u39, u40, u41, u42, u43, u44, u45, u46, u47, u48, u49, u50, u51, u52, u53, u54, u55, u56, u57, u58, u59, u60, u61, u62, u63, u64, u65, u66, u67, u68, u69, u70, u71, u72, u73, u74, u75, u76, u77, u78, u79, u80, u81, u82, u83, u84, u85, u86, u87, u88, u89, u90, u91, u92, u93, u94, u95, u96, u97, u98, u99, u100, u101, u102, u103, u104, u105, u106, u107, u108, u109, u110, u111, u112, u113, u114, u115, u116, u117, u118, u119, u120, u121, u122, u123, u124, u125, u126, u127, u128, u129, u130, u131, u132], []⟩ wc := by
  conv => arg 2; whnf
  have HKK := Lib.hid hK
  clear hK
  go_wp2_with fail
  refine wp_loop_rounds 3 ?_
  rw [rounds_succ]
  go_wp2_with fail
  refine add_round0 (p := (key, (n : Int) - e)) (d := c0) (v := v0) ?_ ?_ ?_ ?_ ?_ HA.out.m.r0 HA.out.m.ne0 HA.out.m.blk (HA.out.m.blk.cell 7) (HA.out.p.cell 0) (HA.out.p.cell 1) _ _ _ _ _ _ _ _ _ _ _ _ _ _ _ _ _ _ _ _ _ _ _ _ _ _ _ _ _ _ _ _ _ _ _ _ _ _ _ _ _ _ _ _ _ _ _ _ _ _ _ _ _ _ _ _ _ _ _ _ _ _ _ _ _ _ _ _ _ _ _ _ _ _ _ _ _ _ _ _ _ _ _ _ _ _ _ _ _ _ _ _ _ _ _ _ _ _ _ _ _ _ _ _ _ _ _ _ _ _ _ _ _ _ _ _ _ _ _ _ _ _ _ _ _ _ _ _ _ _ ?_
  · exact C.out.pt (d := -e) (.inr rfl)
  · exact fun u hu => C.out.S.pt_ok (.inr rfl) (C.out.S.lo.sub u (List.mem_reverse.2 hu))
  · have := C.out.S.lo.xs; rw [List.pairwise_reverse] at this; exact this
  · exact fun u hu => C.out.S.lt C.out.hl u (C.out.S.lo.sub u (List.mem_reverse.2 hu))
  · have := C.out.S.n0; omega
  intro v0' x97 x98 x99 x100 x101 x102 x103 x104 x105 x106 x107 x108 x109 x110 x111 x112 w5 L5
  have HB := Lib.hid (HA.out.round0 C.out.H C.out.off L5)
  clear L5 HA
  generalize w5.setCell _ _ = w1 at *
  go_wp2_with fail
  rw [rounds_succ]
  go_wp2_with fail
  refine add_round1 (p := (key, (n : Int) + e)) (d := c1) (v := v1) ?_ ?_ ?_ ?_ ?_ HB.out.m.r1 HB.out.m.ne1 HB.out.m.blk (HB.out.m.blk.cell 8) (HB.out.p.cell 2) (HB.out.p.cell 3) _ _ _ _ _ _ _ _ _ _ _ _ _ _ _ _ _ _ _ _ _ _ _ _ _ _ _ _ _ _ _ _ _ _ _ _ _ _ _ _ _ _ _ _ _ _ _ _ _ _ _ _ _ _ _ _ _ _ _ _ _ _ _ _ _ _ _ _ _ _ _ _ _ _ _ _ _ _ _ _ _ _ _ _ _ _ _ _ _ _ _ _ _ _ _ _ _ _ _ _ _ _ _ _ _ _ _ _ _ _ _ _ _ _ _ _ _ _ _ _ _ _ _ _ _ _ _ _ _ _ ?_
  · exact C.out.pt (d := e) (.inl rfl)
  · exact fun u hu => C.out.S.pt_ok (.inl rfl) (C.out.S.up.sub u (List.mem_reverse.2 hu))
  · have := C.out.S.up.xs; rw [List.pairwise_reverse] at this; exact this
  · exact fun u hu => C.out.S.lt C.out.hl u (C.out.S.up.sub u (List.mem_reverse.2 hu))
  · have := C.out.S.n1; omega
  intro v1' y97 y98 y99 y100 y101 y102 y103 y104 y105 y106 y107 y108 y109 y110 y111 y112 w6 L6
  have HD := Lib.hid (HB.out.round1 C.out.H L6)
  clear L6 HB
  generalize w6.setCell _ _ = w2 at *
  go_wp2_with fail
  rw [rounds_succ]
  go_wp2_with fail
  exact HKK.out v0' v1' _ _ _ _ _ _ _ _ _ _ _ _ _ _ _ _ _ _ _ _ _ _ HD
end Go.Proofs.Ytnccgpdniigekaa
/-
  (*hull.Fit).Add: the last stores.
-/
namespace Go.Proofs.Ytnccgpdniigekaa
open Go.RowKit
set_option linter.unusedVariables false
set_option linter.unusedSimpArgs false

/-- The five stores. -/
def st5 (w : World) (b : Nat) (low top : Fr) (key : Int) : World :=
  ((((w.setCell ⟨b, 3, none⟩ (.int .u64 low.1)).setCell ⟨b, 4, none⟩ (.int .u64 low.2)).setCell ⟨b, 5, none⟩ (.int .u64 top.1)).setCell ⟨b, 6, none⟩ (.int .u64 top.2)).setCell ⟨b, 2, none⟩ (.int .u64 key)
section
variable {W wc w : World} {b : Nat} {e last : Int} {F : Fit} {n : Nat} {low top : Fr} {v0 v1 v0' v1' : Value} {c0 c1 d0 d1 : List Pt} {key : Int} {g7 g8 : Nat} {l t : Fr}
theorem A2.stored {n : Int} (h : A2 W b e n last low top v0 v1 v0' v1' d0 d1 g7 g8 l t wc) : FitM (st5 wc b l t key) b e n key l t v0' v1' d0 d1 ∧ (Chg (fun k => k = b ∨ v0.ownBlock = some k ∨ v1.ownBlock = some k) W (st5 wc b l t key) ∧ (∀ g, v0'.ownBlock = some g → v0.ownBlock = some g ∨ W.heap.size ≤ g) ∧ (∀ g, v1'.ownBlock = some g → v1.ownBlock = some g ∨ W.heap.size ≤ g) ∧ (∀ g, v0'.ownBlock = some g → v1'.ownBlock ≠ some g)) := by
  unfold st5
  refine ⟨⟨((((h.m.blk.set 3 _).set 4 _).set 5 _).set 6 _).set 2 _, ?_, ?_⟩, ?_, h.o0, h.o1, h.off⟩
  · exact own_far (own_far (own_far (own_far (own_far h.m.r0 h.m.ne0 _) h.m.ne0 _) h.m.ne0 _) h.m.ne0 _) h.m.ne0 _
  · exact own_far (own_far (own_far (own_far (own_far h.m.r1 h.m.ne1 _) h.m.ne1 _) h.m.ne1 _) h.m.ne1 _) h.m.ne1 _
  · exact ((((h.chg.setCell (fun _ => .inl rfl) _).setCell (fun _ => .inl rfl) _).setCell (fun _ => .inl rfl) _).setCell (fun _ => .inl rfl) _).setCell (fun _ => .inl rfl) _
theorem AC.took (C : AC W b e F n last v0 v1 c0 c1 key) (M : FitM w b e n key (F.lowWith e key) (F.topWith e key) v0' v1' (layL (-1) (key, (n : Int) - e) c0) (layL 1 (key, (n : Int) + e) c1))
    (H : Chg (fun k => k = b ∨ v0.ownBlock = some k ∨ v1.ownBlock = some k) W w ∧ (∀ g, v0'.ownBlock = some g → v0.ownBlock = some g ∨ W.heap.size ≤ g) ∧ (∀ g, v1'.ownBlock = some g → v1.ownBlock = some g ∨ W.heap.size ≤ g) ∧ (∀ g, v0'.ownBlock = some g → v1'.ownBlock ≠ some g)) (hlt : ¬ ltF (F.topWith e key) (F.lowWith e key)) :
    AddPost W b e F v0 v1 key (.returned (.tuple #[.bool true, .int .i64 0])) ((w.drew).setCell ⟨b, 1, none⟩ (.int .i64 (n + 1))) := by
  have e1 : F.add e key = ((true, 0), ⟨F.keys ++ [key], F.lowWith e key, F.topWith e key⟩) := by rw [Fit.add, if_neg (by simp [C.hl]), if_neg hlt]
  have hok := C.S.ok.add (by have := C.S.e0; omega) key (e := e)
  rw [e1] at hok
  have T := C.S.taken C.hk C.hl (by have := C.big; have := C.hn; omega) hok hlt
  rw [C.hn] at T
  refine ⟨by rw [e1], v0', v1', ?_, (H.1.drew.setCell (fun _ => .inl rfl) _), H.2.1, H.2.2.1⟩
  rw [e1]
  refine ⟨key, _, _, ?_, T, ?_, H.2.2.2⟩
  · have hl : (((F.keys ++ [key]).length : Nat) : Int) = (n : Int) + 1 := by have := C.hn; simp; omega
    simp only [hl]
    exact ⟨M.blk.drew.set 1 _, own_far M.r0.drew M.ne0 _, own_far M.r1.drew M.ne1 _⟩
  · intro l hl; simp at hl; omega
end
set_option maxHeartbeats 4000000 in
set_option maxRecDepth 10000 in
theorem add_last {W : World} {b : Nat} {e : Int} {F : Fit} {n : Nat} {last : Int} {v0 v1 : Value} {c0 c1 : List Pt} {key : Int} {g7 g8 : Nat} (C : Hid (AC W b e F n last v0 v1 c0 c1 key)) {v0' v1' : Value} {wc : World} (HD : Hid (A2 W b e n last F.low F.top v0 v1 v0' v1' (layL (-1) (key, (n : Int) - e) c0) (layL 1 (key, (n : Int) + e) c1) g7 g8 (F.lowWith e key) (F.topWith e key) wc)) (hlt : ¬ ltF (F.topWith e key) (F.lowWith e key)) (u2 u3 u9 u10 u11 u12 u13 u14 u15 u16 u17 u18 u19 u20 u21 u22 u23 u24 u25 u26 u27 u28 u29 u30 u31 u32 u33 u34 u35 u36 u37 u38 u39 u40 u41 u42 u43 u44 u45 u46 u47 u48 u49 u50 u51 u52 u53 u54 u55 u56 u57 u58 u59 u60 u61 u62 u63 u64 u65 u66 u67 u68 u69 u70 u71 u72 u73 u74 u75 u76 u77 u78 u79 u80 u81 u82 u83 u84 u85 u86 u87 u88 u89 u90 u91 u92 u93 u94 u95 u96 u97 u98 u99 u100 u101 u102 u103 u104 u105 u106 u107 u108 u109 u110 u111 u112 u113 u114 u115 u116 u117 u118 u119 u120 u121 u122 u123 u124 u125 u126 u127 u128 u129 u130 u131 u132 : Value) :
    Code.wp Try.prog addLast (bodyPost Try.prog Try.f81 (AddPost W b e F v0 v1 key)) ⟨#[.pointer (some ⟨b, 0, none⟩), .int .u64 key, u2, u3, .bool false, .int .i64 0, .pointer (some ⟨W.heap.size, 0, none⟩), .pointer (some ⟨g7, 0, none⟩), .pointer (some ⟨g8, 0, none⟩), u9, u10, u11, u12, u13, u14, u15, u16, u17, u18, u19, u20, u21, u22, u23, u24, u25, u26, u27, u28, u29, u30, u31, u32, u33, u34, u35, u36, u37, u38, u39, u40, u41, u42, u43, u44, u45, u46, u47, u48, u49, u50, u51, u52, u53, u54, u55, u56, u57, u58, u59, u60, u61, u62, u63, u64, u65, u66, u67, u68, u69, u70, u71, u72, u73, u74, u75, u76, u77, u78, u79, u80, u81, u82, u83, u84, u85, u86, u87, u88, u89, u90, u91, u92, u93, u94, u95, u96, u97, u98, u99, u100, u101, u102, u103, u104, u105, u106, u107, u108, u109, u110, u111, u112, u113, u114, u115, u116, u117, u118, u119, u120, u121, u122, u123, u124, u125, u126, u127, u128, u129, u130, u131, u132], []⟩ wc := by
  conv => arg 2; whnf
  have HL := Lib.hid hlt
  obtain ⟨y0, y1, _, _⟩ := HD.out.l.cells2
  obtain ⟨y2, y3, _, _⟩ := HD.out.t.cells2
  have z2 : wc.cell? ⟨b, 2, none⟩ = some (.int .u64 last) := HD.out.m.blk.cell 2
  have z3 : wc.cell? ⟨b, 3, none⟩ = some (.int .u64 F.low.1) := HD.out.m.blk.cell 3
  have z4 : wc.cell? ⟨b, 4, none⟩ = some (.int .u64 F.low.2) := HD.out.m.blk.cell 4
  have z5 : wc.cell? ⟨b, 5, none⟩ = some (.int .u64 F.top.1) := HD.out.m.blk.cell 5
  have z6 : wc.cell? ⟨b, 6, none⟩ = some (.int .u64 F.top.2) := HD.out.m.blk.cell 6
  have f2 : wc.frozen? ⟨b, 2, none⟩ = false := HD.out.m.blk.free 2
  have f3 : wc.frozen? ⟨b, 3, none⟩ = false := HD.out.m.blk.free 3
  have f4 : wc.frozen? ⟨b, 4, none⟩ = false := HD.out.m.blk.free 4
  have f5 : wc.frozen? ⟨b, 5, none⟩ = false := HD.out.m.blk.free 5
  have f6 : wc.frozen? ⟨b, 6, none⟩ = false := HD.out.m.blk.free 6
  have n7 : (g7 = b) = False := by have := C.out.H.blk.lt; have := HD.out.lo7; simp; omega
  have n8 : (g8 = b) = False := by have := C.out.H.blk.lt; have := HD.out.lo8; simp; omega
  clear hlt
  go_wp2_with fail
  go_big_region
  have HM := Lib.hid (HD.out.stored (key := key))
  change Exit.then _ _ Exit.normal _ (st5 wc b (F.lowWith e key) (F.topWith e key) key).drew
  clear y0 y1 y2 y3 z2 z3 z4 z5 z6 f2 f3 f4 f5 f6 n7 n8 HD
  generalize st5 wc b (F.lowWith e key) (F.topWith e key) key = w2 at *
  have q1 : w2.cell? ⟨b, 1, none⟩ = some (.int .i64 n) := HM.out.1.blk.cell 1
  have q2 : w2.frozen? ⟨b, 1, none⟩ = false := HM.out.1.blk.free 1
  have hn2 : (n : Int) ≤ 17592186044416 := by have := C.out.big; omega
  go_wp2_with fail
  go_ret2
  exact C.out.took HM.out.1 HM.out.2 HL.out
end Go.Proofs.Ytnccgpdniigekaa
/-
  (*hull.Fit).Add: whole.
-/
namespace Go.Proofs.Ytnccgpdniigekaa
open Go.RowKit
set_option linter.unusedVariables false
set_option linter.unusedSimpArgs false

noncomputable def addB : Code := Try.f81.body.getD .skip
noncomputable def addA1 : Code := cFst (cSnd addB)
noncomputable def addA3 : Code := cFst (cSnd (cSnd addB))
noncomputable def addA4 : Code := cFst (cSnd (cSnd (cSnd addB)))
noncomputable def addA5 : Code := cFst addRest
set_option maxHeartbeats 4000000 in
set_option maxRecDepth 10000 in
theorem add_a1 {W : World} {b : Nat} {e : Int} {F : Fit} {n : Nat} {last : Int} {v0 v1 : Value} {c0 c1 : List Pt} {key : Int} (C : Hid (AC W b e F n last v0 v1 c0 c1 key)) (u2 u3 u6 u7 u8 u9 u10 u11 u12 u13 u14 u15 u16 u17 u18 u19 u20 u21 u22 u23 u24 u25 u26 u27 u28 u29 u30 u31 u32 u33 u34 u35 u36 u37 u38 u39 u40 u41 u42 u43 u44 u45 u46 u47 u48 u49 u50 u51 u52 u53 u54 u55 u56 u57 u58 u59 u60 u61 u62 u63 u64 u65 u66 u67 u68 u69 u70 u71 u72 u73 u74 u75 u76 u77 u78 u79 u80 u81 u82 u83 u84 u85 u86 u87 u88 u89 u90 u91 u92 u93 u94 u95 u96 u97 u98 u99 u100 u101 u102 u103 u104 u105 u106 u107 u108 u109 u110 u111 u112 u113 u114 u115 u116 u117 u118 u119 u120 u121 u122 u123 u124 u125 u126 u127 u128 u129 u130 u131 u132 : Value) {K : Act → World → Prop} {Q : Exit → Act → World → Prop}
    (hK : ∀ (x13 x14 x15 x16 x17 x18 x19 x20 x21 x22 x23 x24 x25 : Value), K ⟨#[.pointer (some ⟨b, 0, none⟩), .int .u64 key, u2, u3, .bool false, .int .i64 0, u6, u7, u8, u9, u10, u11, u12, x13, x14, x15, x16, x17, x18, x19, x20, x21, x22, x23, x24, x25, u26, u27, u28, u29, u30, u31, u32, u33, u34, u35, u36, u37, u38, u39, u40, u41, u42, u43, u44, u45, u46, u47, u48, u49, u50, u51, u52, u53, u54, u55, u56, u57, u58, u59, u60, u61, u62, u63, u64, u65, u66, u67, u68, u69, u70, u71, u72, u73, u74, u75, u76, u77, u78, u79, u80, u81, u82, u83, u84, u85, u86, u87, u88, u89, u90, u91, u92, u93, u94, u95, u96, u97, u98, u99, u100, u101, u102, u103, u104, u105, u106, u107, u108, u109, u110, u111, u112, u113, u114, u115, u116, u117, u118, u119, u120, u121, u122, u123, u124, u125, u126, u127, u128, u129, u130, u131, u132], []⟩ W) :
    Code.wp Try.prog addA1 (Exit.then K Q) ⟨#[.pointer (some ⟨b, 0, none⟩), .int .u64 key, u2, u3, .bool false, .int .i64 0, u6, u7, u8, u9, u10, u11, u12, u13, u14, u15, u16, u17, u18, u19, u20, u21, u22, u23, u24, u25, u26, u27, u28, u29, u30, u31, u32, u33, u34, u35, u36, u37, u38, u39, u40, u41, u42, u43, u44, u45, u46, u47, u48, u49, u50, u51, u52, u53, u54, u55, u56, u57, u58, u59, u60, u61, u62, u63, u64, u65, u66, u67, u68, u69, u70, u71, u72, u73, u74, u75, u76, u77, u78, u79, u80, u81, u82, u83, u84, u85, u86, u87, u88, u89, u90, u91, u92, u93, u94, u95, u96, u97, u98, u99, u100, u101, u102, u103, u104, u105, u106, u107, u108, u109, u110, u111, u112, u113, u114, u115, u116, u117, u118, u119, u120, u121, u122, u123, u124, u125, u126, u127, u128, u129, u130, u131, u132], []⟩ W := by
  conv => arg 2; whnf
  have HKK := Lib.hid hK
  have x1 : W.cell? ⟨b, 1, none⟩ = some (.int .i64 n) := C.out.H.blk.cell 1
  have x2 : W.cell? ⟨b, 2, none⟩ = some (.int .u64 last) := C.out.H.blk.cell 2
  clear hK
  by_cases hz : 0 < n
  · have hg : decide (0 < (n : Int)) = true := by simpa using hz
    have hg2 : decide (key ≤ last) = false := by have := C.out.lt hz; simp; omega
    go_wp2_with fail
    exact HKK.out _ _ _ _ _ _ _ _ _ _ _ _ _
  · have hg : decide (0 < (n : Int)) = false := by simpa using hz
    go_wp2_with fail
    exact HKK.out _ _ _ _ _ _ _ _ _ _ _ _ _
set_option maxHeartbeats 4000000 in
set_option maxRecDepth 10000 in
theorem add_a3 {W : World} {b : Nat} {e : Int} {F : Fit} {n : Nat} {last : Int} {v0 v1 : Value} {c0 c1 : List Pt} {key : Int} (C : Hid (AC W b e F n last v0 v1 c0 c1 key)) (u2 u3 u6 u7 u8 u9 u10 u11 u12 u13 u14 u15 u16 u17 u18 u19 u20 u21 u22 u23 u24 u25 u26 u27 u28 u29 u30 u31 u32 u33 u34 u35 u36 u37 u38 u39 u40 u41 u42 u43 u44 u45 u46 u47 u48 u49 u50 u51 u52 u53 u54 u55 u56 u57 u58 u59 u60 u61 u62 u63 u64 u65 u66 u67 u68 u69 u70 u71 u72 u73 u74 u75 u76 u77 u78 u79 u80 u81 u82 u83 u84 u85 u86 u87 u88 u89 u90 u91 u92 u93 u94 u95 u96 u97 u98 u99 u100 u101 u102 u103 u104 u105 u106 u107 u108 u109 u110 u111 u112 u113 u114 u115 u116 u117 u118 u119 u120 u121 u122 u123 u124 u125 u126 u127 u128 u129 u130 u131 u132 : Value) {K : Act → World → Prop} {Q : Exit → Act → World → Prop}
    (hK : ∀ (x26 x27 x28 x29 x30 x31 x32 x33 x34 x35 x36 x37 x38 x39 x40 x41 x42 x43 x44 x45 x46 x47 x48 : Value) (wx : World), Hid (P4 W b e n last F.low F.top v0 v1 c0 c1 key wx) → K ⟨#[.pointer (some ⟨b, 0, none⟩), .int .u64 key, u2, u3, .bool false, .int .i64 0, .pointer (some ⟨W.heap.size, 0, none⟩), u7, u8, u9, u10, u11, u12, u13, u14, u15, u16, u17, u18, u19, u20, u21, u22, u23, u24, u25, x26, x27, x28, x29, x30, x31, x32, x33, x34, x35, x36, x37, x38, x39, x40, x41, x42, x43, x44, x45, x46, x47, x48, u49, u50, u51, u52, u53, u54, u55, u56, u57, u58, u59, u60, u61, u62, u63, u64, u65, u66, u67, u68, u69, u70, u71, u72, u73, u74, u75, u76, u77, u78, u79, u80, u81, u82, u83, u84, u85, u86, u87, u88, u89, u90, u91, u92, u93, u94, u95, u96, u97, u98, u99, u100, u101, u102, u103, u104, u105, u106, u107, u108, u109, u110, u111, u112, u113, u114, u115, u116, u117, u118, u119, u120, u121, u122, u123, u124, u125, u126, u127, u128, u129, u130, u131, u132], []⟩ wx) :
    Code.wp Try.prog addA3 (Exit.then K Q) ⟨#[.pointer (some ⟨b, 0, none⟩), .int .u64 key, u2, u3, .bool false, .int .i64 0, u6, u7, u8, u9, u10, u11, u12, u13, u14, u15, u16, u17, u18, u19, u20, u21, u22, u23, u24, u25, u26, u27, u28, u29, u30, u31, u32, u33, u34, u35, u36, u37, u38, u39, u40, u41, u42, u43, u44, u45, u46, u47, u48, u49, u50, u51, u52, u53, u54, u55, u56, u57, u58, u59, u60, u61, u62, u63, u64, u65, u66, u67, u68, u69, u70, u71, u72, u73, u74, u75, u76, u77, u78, u79, u80, u81, u82, u83, u84, u85, u86, u87, u88, u89, u90, u91, u92, u93, u94, u95, u96, u97, u98, u99, u100, u101, u102, u103, u104, u105, u106, u107, u108, u109, u110, u111, u112, u113, u114, u115, u116, u117, u118, u119, u120, u121, u122, u123, u124, u125, u126, u127, u128, u129, u130, u131, u132], []⟩ W := by
  conv => arg 2; whnf
  have HKK := Lib.hid hK
  have he0 := C.out.S.e0
  have he1 := C.out.S.e1
  have hb := C.out.big
  have a1 : IntKind.i64.wrap ((n : Int) - e) = (n : Int) - e := IntWalk.i64_in _ (by omega)
  have a2 : IntKind.i64.wrap ((n : Int) + e) = (n : Int) + e := IntWalk.i64_in _ (by omega)
  have H0 : Hid (FitM W.drew b e n last F.low F.top v0 v1 c0 c1) := Lib.hid (C.out.H.below (Below.refl _ _).drew)
  have H1 : ∀ cs, Hid (FitM (W.alloc (.cells cs 140)).drew b e n last F.low F.top v0 v1 c0 c1) := fun cs => Lib.hid (C.out.H.below (below_new (Below.refl _ _) _).drew)
  clear hK
  go_region_held3 (fun w' => FitM w' b e n last F.low F.top v0 v1 c0 c1 ∧ w'.cell? ⟨b, 0, none⟩ = some (.int .i64 e) ∧ w'.cell? ⟨b, 1, none⟩ = some (.int .i64 n))
    (first | exact ⟨H0.out, H0.out.blk.cell 0, H0.out.blk.cell 1⟩ | exact ⟨(H1 _).out, (H1 _).out.blk.cell 0, (H1 _).out.blk.cell 1⟩) (fail)
  all_goals go_wp2_with fail
  have M := C.out.H.below (below_new (Below.refl _ _) (.cells #[.int .u64 key, .int .i64 (n - e), .int .u64 key, .int .i64 (n + e)] 140))
  exact HKK.out _ _ _ _ _ _ _ _ _ _ _ _ _ _ _ _ _ _ _ _ _ _ _ _ (Lib.hid ⟨⟨M.blk.drew, M.r0.drew, M.r1.drew⟩, (Blk.new _ _ _).drew, (below_new (Below.refl _ _) _).drew⟩)
set_option maxHeartbeats 4000000 in
set_option maxRecDepth 10000 in
theorem add_a4 {W : World} {b : Nat} {e : Int} {F : Fit} {n : Nat} {last : Int} {v0 v1 : Value} {c0 c1 : List Pt} {key : Int} (C : Hid (AC W b e F n last v0 v1 c0 c1 key)) {wc : World} (C1 : Hid (P4 W b e n last F.low F.top v0 v1 c0 c1 key wc)) (u2 u3 u7 u8 u9 u10 u11 u12 u13 u14 u15 u16 u17 u18 u19 u20 u21 u22 u23 u24 u25 u26 u27 u28 u29 u30 u31 u32 u33 u34 u35 u36 u37 u38 u39 u40 u41 u42 u43 u44 u45 u46 u47 u48 u49 u50 u51 u52 u53 u54 u55 u56 u57 u58 u59 u60 u61 u62 u63 u64 u65 u66 u67 u68 u69 u70 u71 u72 u73 u74 u75 u76 u77 u78 u79 u80 u81 u82 u83 u84 u85 u86 u87 u88 u89 u90 u91 u92 u93 u94 u95 u96 u97 u98 u99 u100 u101 u102 u103 u104 u105 u106 u107 u108 u109 u110 u111 u112 u113 u114 u115 u116 u117 u118 u119 u120 u121 u122 u123 u124 u125 u126 u127 u128 u129 u130 u131 u132 : Value) {K : Act → World → Prop} {Q : Exit → Act → World → Prop}
    (hK : ∀ (g7 g8 : Nat) (x49 x50 x51 x52 x53 x54 x55 x56 : Value) (wx : World), Hid (A1 W b e n last F.low F.top v0 v1 c0 c1 key g7 g8 F.low F.top wx) → K ⟨#[.pointer (some ⟨b, 0, none⟩), .int .u64 key, u2, u3, .bool false, .int .i64 0, .pointer (some ⟨W.heap.size, 0, none⟩), .pointer (some ⟨g7, 0, none⟩), .pointer (some ⟨g8, 0, none⟩), u9, u10, u11, u12, u13, u14, u15, u16, u17, u18, u19, u20, u21, u22, u23, u24, u25, u26, u27, u28, u29, u30, u31, u32, u33, u34, u35, u36, u37, u38, u39, u40, u41, u42, u43, u44, u45, u46, u47, u48, x49, x50, x51, x52, x53, x54, x55, x56, u57, u58, u59, u60, u61, u62, u63, u64, u65, u66, u67, u68, u69, u70, u71, u72, u73, u74, u75, u76, u77, u78, u79, u80, u81, u82, u83, u84, u85, u86, u87, u88, u89, u90, u91, u92, u93, u94, u95, u96, u97, u98, u99, u100, u101, u102, u103, u104, u105, u106, u107, u108, u109, u110, u111, u112, u113, u114, u115, u116, u117, u118, u119, u120, u121, u122, u123, u124, u125, u126, u127, u128, u129, u130, u131, u132], []⟩ wx) :
    Code.wp Try.prog addA4 (Exit.then K Q) ⟨#[.pointer (some ⟨b, 0, none⟩), .int .u64 key, u2, u3, .bool false, .int .i64 0, .pointer (some ⟨W.heap.size, 0, none⟩), u7, u8, u9, u10, u11, u12, u13, u14, u15, u16, u17, u18, u19, u20, u21, u22, u23, u24, u25, u26, u27, u28, u29, u30, u31, u32, u33, u34, u35, u36, u37, u38, u39, u40, u41, u42, u43, u44, u45, u46, u47, u48, u49, u50, u51, u52, u53, u54, u55, u56, u57, u58, u59, u60, u61, u62, u63, u64, u65, u66, u67, u68, u69, u70, u71, u72, u73, u74, u75, u76, u77, u78, u79, u80, u81, u82, u83, u84, u85, u86, u87, u88, u89, u90, u91, u92, u93, u94, u95, u96, u97, u98, u99, u100, u101, u102, u103, u104, u105, u106, u107, u108, u109, u110, u111, u112, u113, u114, u115, u116, u117, u118, u119, u120, u121, u122, u123, u124, u125, u126, u127, u128, u129, u130, u131, u132], []⟩ wc := by
  conv => arg 2; whnf
  have HKK := Lib.hid hK
  have hbs := C1.out.bel.size
  have hpl := C1.out.p.lt
  clear hK
  go_region_held3 (fun w' => P4 W b e n last F.low F.top v0 v1 c0 c1 key w' ∧ w'.cell? ⟨b, 3, none⟩ = some (.int .u64 F.low.1) ∧ w'.cell? ⟨b, 4, none⟩ = some (.int .u64 F.low.2) ∧ w'.cell? ⟨b, 5, none⟩ = some (.int .u64 F.top.1) ∧ w'.cell? ⟨b, 6, none⟩ = some (.int .u64 F.top.2))
    (first | exact P4.all C1.out.drew | exact P4.all (C1.out.alloc _).drew | exact P4.all ((C1.out.alloc _).alloc _).drew) (fail)
  all_goals go_wp2_with fail
  all_goals first
    | exact HKK.out _ _ _ _ _ _ _ _ _ _ _ (Lib.hid ⟨(((C1.out.alloc _).alloc _).drew).m, (((C1.out.alloc _).alloc _).drew).p, by omega, by omega, by omega, ((Blk.new' _ _ (by simp)).alloc _).drew, (Blk.new' _ _ (by simp)).drew, (((C1.out.alloc _).alloc _).drew).bel⟩)
    | exact HKK.out _ _ _ _ _ _ _ _ _ _ _ (Lib.hid ⟨(((C1.out.alloc _).alloc _).drew).m, (((C1.out.alloc _).alloc _).drew).p, by omega, by omega, by omega, (Blk.new' _ _ (by simp)).drew, ((Blk.new' _ _ (by simp)).alloc _).drew, (((C1.out.alloc _).alloc _).drew).bel⟩)
set_option maxHeartbeats 4000000 in
set_option maxRecDepth 10000 in
theorem add_a5 {W : World} {b : Nat} {e : Int} {F : Fit} {n : Nat} {last : Int} {v0 v1 : Value} {c0 c1 : List Pt} {key : Int} {g7 g8 : Nat} (C : Hid (AC W b e F n last v0 v1 c0 c1 key)) {wc : World} (HA : Hid (A1 W b e n last F.low F.top v0 v1 c0 c1 key g7 g8 F.low F.top wc)) (u2 u3 u9 u10 u11 u12 u13 u14 u15 u16 u17 u18 u19 u20 u21 u22 u23 u24 u25 u26 u27 u28 u29 u30 u31 u32 u33 u34 u35 u36 u37 u38 u39 u40 u41 u42 u43 u44 u45 u46 u47 u48 u49 u50 u51 u52 u53 u54 u55 u56 u57 u58 u59 u60 u61 u62 u63 u64 u65 u66 u67 u68 u69 u70 u71 u72 u73 u74 u75 u76 u77 u78 u79 u80 u81 u82 u83 u84 u85 u86 u87 u88 u89 u90 u91 u92 u93 u94 u95 u96 u97 u98 u99 u100 u101 u102 u103 u104 u105 u106 u107 u108 u109 u110 u111 u112 u113 u114 u115 u116 u117 u118 u119 u120 u121 u122 u123 u124 u125 u126 u127 u128 u129 u130 u131 u132 : Value) {K : Act → World → Prop}
    (hK : ¬ ltF (F.topWith e key) (F.lowWith e key) → ∀ (x9 x10 x11 x57 x58 x59 x60 x61 x62 x63 x64 x65 x66 x67 x68 x69 x70 x71 x72 x73 x74 x75 x76 x77 x78 x79 x80 x81 x82 x83 x84 x85 x86 x87 x88 x89 x90 x91 x92 x93 : Value) (wx : World), Hid (A1 W b e n last F.low F.top v0 v1 c0 c1 key g7 g8 (F.lowWith e key) (F.topWith e key) wx) → K ⟨#[.pointer (some ⟨b, 0, none⟩), .int .u64 key, u2, u3, .bool false, .int .i64 0, .pointer (some ⟨W.heap.size, 0, none⟩), .pointer (some ⟨g7, 0, none⟩), .pointer (some ⟨g8, 0, none⟩), x9, x10, x11, u12, u13, u14, u15, u16, u17, u18, u19, u20, u21, u22, u23, u24, u25, u26, u27, u28, u29, u30, u31, u32, u33, u34, u35, u36, u37, u38, u39, u40, u41, u42, u43, u44, u45, u46, u47, u48, u49, u50, u51, u52, u53, u54, u55, u56, x57, x58, x59, x60, x61, x62, x63, x64, x65, x66, x67, x68, x69, x70, x71, x72, x73, x74, x75, x76, x77, x78, x79, x80, x81, x82, x83, x84, x85, x86, x87, x88, x89, x90, x91, x92, x93, u94, u95, u96, u97, u98, u99, u100, u101, u102, u103, u104, u105, u106, u107, u108, u109, u110, u111, u112, u113, u114, u115, u116, u117, u118, u119, u120, u121, u122, u123, u124, u125, u126, u127, u128, u129, u130, u131, u132], []⟩ wx) :
    Code.wp Try.prog addA5 (Exit.then K (bodyPost Try.prog Try.f81 (AddPost W b e F v0 v1 key))) ⟨#[.pointer (some ⟨b, 0, none⟩), .int .u64 key, u2, u3, .bool false, .int .i64 0, .pointer (some ⟨W.heap.size, 0, none⟩), .pointer (some ⟨g7, 0, none⟩), .pointer (some ⟨g8, 0, none⟩), u9, u10, u11, u12, u13, u14, u15, u16, u17, u18, u19, u20, u21, u22, u23, u24, u25, u26, u27, u28, u29, u30, u31, u32, u33, u34, u35, u36, u37, u38, u39, u40, u41, u42, u43, u44, u45, u46, u47, u48, u49, u50, u51, u52, u53, u54, u55, u56, u57, u58, u59, u60, u61, u62, u63, u64, u65, u66, u67, u68, u69, u70, u71, u72, u73, u74, u75, u76, u77, u78, u79, u80, u81, u82, u83, u84, u85, u86, u87, u88, u89, u90, u91, u92, u93, u94, u95, u96, u97, u98, u99, u100, u101, u102, u103, u104, u105, u106, u107, u108, u109, u110, u111, u112, u113, u114, u115, u116, u117, u118, u119, u120, u121, u122, u123, u124, u125, u126, u127, u128, u129, u130, u131, u132], []⟩ wc := by
  conv => arg 2; whnf
  have HKK := Lib.hid hK
  have k1 : wc.cell? ⟨b, 1, none⟩ = some (.int .i64 n) := HA.out.m.blk.cell 1
  clear hK
  by_cases hz : 0 < n
  · have hg : decide (0 < (n : Int)) = true := by simpa using hz
    refine wp_seq_k fun K1 h1 => ?_
    have H1 := Lib.hid h1
    clear h1
    go_wp2_with fail
    refine H1.out _ _ ?_
    refine wp_cond_true (by rfl) ?_
    refine wp_seq_k fun K2 h2 => ?_
    refine add_low C hz HA _ _ _ _ _ _ _ _ _ _ _ _ _ _ _ _ _ _ _ _ _ _ _ _ _ _ _ _ _ _ _ _ _ _ _ _ _ _ _ _ _ _ _ _ _ _ _ _ _ _ _ _ _ _ _ _ _ _ _ _ _ _ _ _ _ _ _ _ _ _ _ _ _ _ _ _ _ _ _ _ _ _ _ _ _ _ _ _ _ _ _ _ _ _ _ _ _ _ _ _ _ _ _ _ _ _ _ _ _ _ _ _ _ _ _ _ _ _ _ _ _ _ _ _ _ _ ?_
    intro x9 x10 x62 x63 x64 x65 x66 x67 x68 x69 x70 x71 x72 x73 x74 x75 x76 x77 x78 x79 w2 H2
    refine h2 _ _ ?_
    refine wp_seq_k fun K3 h3 => ?_
    refine wp_seq_k fun K4 h4 => ?_
    refine add_top1 C hz H2 _ _ _ _ _ _ _ _ _ _ _ _ _ _ _ _ _ _ _ _ _ _ _ _ _ _ _ _ _ _ _ _ _ _ _ _ _ _ _ _ _ _ _ _ _ _ _ _ _ _ _ _ _ _ _ _ _ _ _ _ _ _ _ _ _ _ _ _ _ _ _ _ _ _ _ _ _ _ _ _ _ _ _ _ _ _ _ _ _ _ _ _ _ _ _ _ _ _ _ _ _ _ _ _ _ _ _ _ _ _ _ _ _ _ _ _ _ _ _ _ _ _ _ _ _ _ ?_
    intro g11 sl x11 x80 x81 x82 x83 x84 x85 x86 w3 e11 H3
    subst e11
    refine h4 _ _ ?_
    refine add_top2 C H3 _ _ _ _ _ _ _ _ _ _ _ _ _ _ _ _ _ _ _ _ _ _ _ _ _ _ _ _ _ _ _ _ _ _ _ _ _ _ _ _ _ _ _ _ _ _ _ _ _ _ _ _ _ _ _ _ _ _ _ _ _ _ _ _ _ _ _ _ _ _ _ _ _ _ _ _ _ _ _ _ _ _ _ _ _ _ _ _ _ _ _ _ _ _ _ _ _ _ _ _ _ _ _ _ _ _ _ _ _ _ _ _ _ _ _ _ _ _ _ _ _ _ _ _ _ ?_
    intro x87 x88 x89 x90 w4 H4
    refine h3 _ _ ?_
    refine add_end C H4 _ _ _ _ _ _ _ _ _ _ _ _ _ _ _ _ _ _ _ _ _ _ _ _ _ _ _ _ _ _ _ _ _ _ _ _ _ _ _ _ _ _ _ _ _ _ _ _ _ _ _ _ _ _ _ _ _ _ _ _ _ _ _ _ _ _ _ _ _ _ _ _ _ _ _ _ _ _ _ _ _ _ _ _ _ _ _ _ _ _ _ _ _ _ _ _ _ _ _ _ _ _ _ _ _ _ _ _ _ _ _ _ _ _ _ _ _ _ _ _ _ _ _ _ _ _ ?_
    intro hlt x91 x92 x93 w5 H5
    exact HKK.out hlt _ _ _ _ _ _ _ _ _ _ _ _ _ _ _ _ _ _ _ _ _ _ _ _ _ _ _ _ _ _ _ _ _ _ _ _ _ _ _ _ w5 H5
  · have hg : decide (0 < (n : Int)) = false := by simpa using hz
    have HZ : Hid (F.low = F.lowWith e key ∧ F.top = F.topWith e key) := by
      have h0 : F.keys.length = 0 := by have := C.out.hn; omega
      exact Lib.hid ⟨by rw [Fit.lowWith, h0]; rfl, by rw [Fit.topWith, h0]; rfl⟩
    have HW : Hid (¬ ltF (F.topWith e key) (F.lowWith e key)) := Lib.hid (by rw [← HZ.out.1, ← HZ.out.2]; exact C.out.S.wide)
    have HB : Hid (A1 W b e n last F.low F.top v0 v1 c0 c1 key g7 g8 (F.lowWith e key) (F.topWith e key) wc) := Lib.hid (by rw [← HZ.out.1, ← HZ.out.2]; exact HA.out)
    go_wp2_with fail
    exact HKK.out HW.out _ _ _ _ _ _ _ _ _ _ _ _ _ _ _ _ _ _ _ _ _ _ _ _ _ _ _ _ _ _ _ _ _ _ _ _ _ _ _ _ wc HB
set_option maxHeartbeats 4000000 in
set_option maxRecDepth 10000 in
theorem add_ac {W : World} {b : Nat} {e : Int} {F : Fit} {n : Nat} {last : Int} {v0 v1 : Value} {c0 c1 : List Pt} {key : Int} (C : AC W b e F n last v0 v1 c0 c1 key) : Calls Try.prog 81 #[.pointer (some ⟨b, 0, none⟩), .int .u64 key] W (AddPost W b e F v0 v1 key) := by
  have HC := Lib.hid C
  clear C
  go_enter Try.func81, Try.ntmps81
  refine wp_seq_k fun K0 h0 => ?_
  have H0 := Lib.hid h0
  clear h0
  go_wp2_with fail
  refine H0.out _ _ ?_
  refine wp_seq_k fun K1 h1 => ?_
  refine add_a1 HC _ _ _ _ _ _ _ _ _ _ _ _ _ _ _ _ _ _ _ _ _ _ _ _ _ _ _ _ _ _ _ _ _ _ _ _ _ _ _ _ _ _ _ _ _ _ _ _ _ _ _ _ _ _ _ _ _ _ _ _ _ _ _ _ _ _ _ _ _ _ _ _ _ _ _ _ _ _ _ _ _ _ _ _ _ _ _ _ _ _ _ _ _ _ _ _ _ _ _ _ _ _ _ _ _ _ _ _ _ _ _ _ _ _ _ _ _ _ _ _ _ _ _ _ _ _ _ _ _ ?_
  intro x13 x14 x15 x16 x17 x18 x19 x20 x21 x22 x23 x24 x25
  refine h1 _ _ ?_
  refine wp_seq_k fun K3 h3 => ?_
  refine add_a3 HC _ _ _ _ _ _ _ _ _ _ _ _ _ _ _ _ _ _ _ _ _ _ _ _ _ _ _ _ _ _ _ _ _ _ _ _ _ _ _ _ _ _ _ _ _ _ _ _ _ _ _ _ _ _ _ _ _ _ _ _ _ _ _ _ _ _ _ _ _ _ _ _ _ _ _ _ _ _ _ _ _ _ _ _ _ _ _ _ _ _ _ _ _ _ _ _ _ _ _ _ _ _ _ _ _ _ _ _ _ _ _ _ _ _ _ _ _ _ _ _ _ _ _ _ _ _ _ _ _ ?_
  intro x26 x27 x28 x29 x30 x31 x32 x33 x34 x35 x36 x37 x38 x39 x40 x41 x42 x43 x44 x45 x46 x47 x48 w3 H3
  refine h3 _ _ ?_
  refine wp_seq_k fun K4 h4 => ?_
  refine add_a4 HC H3 _ _ _ _ _ _ _ _ _ _ _ _ _ _ _ _ _ _ _ _ _ _ _ _ _ _ _ _ _ _ _ _ _ _ _ _ _ _ _ _ _ _ _ _ _ _ _ _ _ _ _ _ _ _ _ _ _ _ _ _ _ _ _ _ _ _ _ _ _ _ _ _ _ _ _ _ _ _ _ _ _ _ _ _ _ _ _ _ _ _ _ _ _ _ _ _ _ _ _ _ _ _ _ _ _ _ _ _ _ _ _ _ _ _ _ _ _ _ _ _ _ _ _ _ _ _ _ _ ?_
  intro g7 g8 x49 x50 x51 x52 x53 x54 x55 x56 w4 H4
  refine h4 _ _ ?_
  refine wp_seq_k fun K5 h5 => ?_
  refine add_a5 HC H4 _ _ _ _ _ _ _ _ _ _ _ _ _ _ _ _ _ _ _ _ _ _ _ _ _ _ _ _ _ _ _ _ _ _ _ _ _ _ _ _ _ _ _ _ _ _ _ _ _ _ _ _ _ _ _ _ _ _ _ _ _ _ _ _ _ _ _ _ _ _ _ _ _ _ _ _ _ _ _ _ _ _ _ _ _ _ _ _ _ _ _ _ _ _ _ _ _ _ _ _ _ _ _ _ _ _ _ _ _ _ _ _ _ _ _ _ _ _ _ _ _ _ _ _ _ _ ?_
  intro hlt x9 x10 x11 x57 x58 x59 x60 x61 x62 x63 x64 x65 x66 x67 x68 x69 x70 x71 x72 x73 x74 x75 x76 x77 x78 x79 x80 x81 x82 x83 x84 x85 x86 x87 x88 x89 x90 x91 x92 x93 w5 H5
  refine h5 _ _ ?_
  refine wp_seq_k fun K6 h6 => ?_
  refine add_loop HC H5 _ _ _ _ _ _ _ _ _ _ _ _ _ _ _ _ _ _ _ _ _ _ _ _ _ _ _ _ _ _ _ _ _ _ _ _ _ _ _ _ _ _ _ _ _ _ _ _ _ _ _ _ _ _ _ _ _ _ _ _ _ _ _ _ _ _ _ _ _ _ _ _ _ _ _ _ _ _ _ _ _ _ _ _ _ _ _ _ _ _ _ _ _ _ _ _ _ _ _ _ _ _ _ _ _ _ _ _ _ _ _ _ _ _ _ _ _ _ _ _ _ _ _ _ _ _ ?_
  intro v0' v1' y12 y94 y95 y96 y97 y98 y99 y100 y101 y102 y103 y104 y105 y106 y107 y108 y109 y110 y111 y112 y113 w6 H6
  refine h6 _ _ ?_
  exact add_last HC H6 hlt _ _ _ _ _ _ _ _ _ _ _ _ _ _ _ _ _ _ _ _ _ _ _ _ _ _ _ _ _ _ _ _ _ _ _ _ _ _ _ _ _ _ _ _ _ _ _ _ _ _ _ _ _ _ _ _ _ _ _ _ _ _ _ _ _ _ _ _ _ _ _ _ _ _ _ _ _ _ _ _ _ _ _ _ _ _ _ _ _ _ _ _ _ _ _ _ _ _ _ _ _ _ _ _ _ _ _ _ _ _ _ _ _ _ _ _ _ _ _ _ _ _ _ _ _ _
/-- (*Fit).Add, whole. -/
theorem hull_Add (b : Nat) (e : Int) (F : Fit) (v0 v1 : Value) (key : Int) (hk : u64ok key) (big : F.keys.length < 17592186044416) (W : World) (H : FitV W b e F v0 v1) :
    Calls Try.prog 81 #[.pointer (some ⟨b, 0, none⟩), .int .u64 key] W (AddPost W b e F v0 v1 key) := by
  obtain ⟨last, c0, c1, M, S, hl, off⟩ := H
  by_cases ht : F.late key = true
  · have e1 : F.add e key = ((false, 40), F) := by rw [Fit.add, if_pos ht]
    unfold Fit.late at ht
    cases hg : F.keys.getLast? with
    | none => rw [hg] at ht; simp at ht
    | some l =>
      rw [hg] at ht
      have h1 : key ≤ l := by simpa using ht
      have h2 := hl l hg
      have h3 : 0 < F.keys.length := by
        cases hK : F.keys with
        | nil => rw [hK] at hg; simp at hg
        | cons a r => simp
      refine (add_late b e F.keys.length last F.low F.top v0 v1 c0 c1 key (by omega) (by omega) W M).mono ?_
      rintro e' w' ⟨rfl, rfl⟩
      refine ⟨by rw [e1], v0, v1, ?_, Chg.refl _ _, fun g hg => .inl hg, fun g hg => .inl hg⟩
      rw [e1]; exact ⟨last, c0, c1, M, S, hl, off⟩
  · exact add_ac (n := F.keys.length) ⟨hk, S, rfl, by simpa using ht, big, M, off, hl⟩
end Go.Proofs.Ytnccgpdniigekaa
