/-
  (*hull.Fit).Add: the last stores.
-/
import Derived.Test.YtanhhgifcolfaaaHuAddP
namespace Go.Proofs.Ytanhhgifcolfaaa
open Go.RowKit
set_option linter.unusedVariables false
set_option linter.unusedSimpArgs false

/-- The five stores. -/
def st5 (w : World) (b : Nat) (low top : Fr) (key : Int) : World :=
  ((((w.setCell ⟨b, 3, none⟩ (.int .u64 low.1)).setCell ⟨b, 4, none⟩ (.int .u64 low.2)).setCell ⟨b, 5, none⟩ (.int .u64 top.1)).setCell ⟨b, 6, none⟩ (.int .u64 top.2)).setCell ⟨b, 2, none⟩ (.int .u64 key)
section
variable {W wc w : World} {b : Nat} {e last : Int} {F : Fit} {n : Nat} {low top : Fr} {v0 v1 v0' v1' : Value} {c0 c1 d0 d1 : List Pt} {key : Int} {g7 g8 : Nat} {l t : Fr}
theorem A2.stored {n : Int} (h : A2 W b e n last low top v0 v1 v0' v1' d0 d1 g7 g8 l t wc) : FitM (st5 wc b l t key) b e n key l t v0' v1' d0 d1 ∧ (Chg (fun k => k = b ∨ v0.ownBlock = some k ∨ v1.ownBlock = some k) W (st5 wc b l t key) ∧ (∀ g, v0'.ownBlock = some g → v0.ownBlock = some g ∨ W.heap.size ≤ g) ∧ (∀ g, v1'.ownBlock = some g → v1.ownBlock = some g ∨ W.heap.size ≤ g) ∧ (∀ g, v0'.ownBlock = some g → v1'.ownBlock ≠ some g)) := by
  unfold st5
  refine ⟨⟨((((h.m.blk.set 3 _).set 4 _).set 5 _).set 6 _).set 2 _, ?_, ?_⟩, ?_, h.o0, h.o1, h.off⟩
  · exact own_far (own_far (own_far (own_far (own_far h.m.r0 h.m.ne0 _) h.m.ne0 _) h.m.ne0 _) h.m.ne0 _) h.m.ne0 _
  · exact own_far (own_far (own_far (own_far (own_far h.m.r1 h.m.ne1 _) h.m.ne1 _) h.m.ne1 _) h.m.ne1 _) h.m.ne1 _
  · exact ((((h.chg.setCell (fun _ => .inl rfl) _).setCell (fun _ => .inl rfl) _).setCell (fun _ => .inl rfl) _).setCell (fun _ => .inl rfl) _).setCell (fun _ => .inl rfl) _
theorem AC.took (C : AC W b e F n last v0 v1 c0 c1 key) (M : FitM w b e n key (F.lowWith e key) (F.topWith e key) v0' v1' (layL (-1) (key, (n : Int) - e) c0) (layL 1 (key, (n : Int) + e) c1))
    (H : Chg (fun k => k = b ∨ v0.ownBlock = some k ∨ v1.ownBlock = some k) W w ∧ (∀ g, v0'.ownBlock = some g → v0.ownBlock = some g ∨ W.heap.size ≤ g) ∧ (∀ g, v1'.ownBlock = some g → v1.ownBlock = some g ∨ W.heap.size ≤ g) ∧ (∀ g, v0'.ownBlock = some g → v1'.ownBlock ≠ some g)) (hlt : ¬ ltF (F.topWith e key) (F.lowWith e key)) :
    AddPost W b e F v0 v1 key (.returned (.tuple #[.bool true, .int .i64 0])) ((w.drew).setCell ⟨b, 1, none⟩ (.int .i64 (n + 1))) := by
  have e1 : F.add e key = ((true, 0), ⟨F.keys ++ [key], F.lowWith e key, F.topWith e key⟩) := by rw [Fit.add, if_neg (by simp [C.hl]), if_neg hlt]
  have hok := C.S.ok.add (by have := C.S.e0; omega) key (e := e)
  rw [e1] at hok
  have T := C.S.taken C.hk C.hl (by have := C.big; have := C.hn; omega) hok hlt
  rw [C.hn] at T
  refine ⟨by rw [e1], v0', v1', ?_, (H.1.drew.setCell (fun _ => .inl rfl) _), H.2.1, H.2.2.1⟩
  rw [e1]
  refine ⟨key, _, _, ?_, T, ?_, H.2.2.2⟩
  · have hl : (((F.keys ++ [key]).length : Nat) : Int) = (n : Int) + 1 := by have := C.hn; simp; omega
    simp only [hl]
    exact ⟨M.blk.drew.set 1 _, own_far M.r0.drew M.ne0 _, own_far M.r1.drew M.ne1 _⟩
  · intro l hl; simp at hl; omega
end
set_option maxHeartbeats 4000000 in
set_option maxRecDepth 10000 in
theorem add_last {W : World} {b : Nat} {e : Int} {F : Fit} {n : Nat} {last : Int} {v0 v1 : Value} {c0 c1 : List Pt} {key : Int} {g7 g8 : Nat} (C : Hid (AC W b e F n last v0 v1 c0 c1 key)) {v0' v1' : Value} {wc : World} (HD : Hid (A2 W b e n last F.low F.top v0 v1 v0' v1' (layL (-1) (key, (n : Int) - e) c0) (layL 1 (key, (n : Int) + e) c1) g7 g8 (F.lowWith e key) (F.topWith e key) wc)) (hlt : ¬ ltF (F.topWith e key) (F.lowWith e key)) (u2 u3 u9 u10 u11 u12 u13 u14 u15 u16 u17 u18 u19 u20 u21 u22 u23 u24 u25 u26 u27 u28 u29 u30 u31 u32 u33 u34 u35 u36 u37 u38 u39 u40 u41 u42 u43 u44 u45 u46 u47 u48 u49 u50 u51 u52 u53 u54 u55 u56 u57 u58 u59 u60 u61 u62 u63 u64 u65 u66 u67 u68 u69 u70 u71 u72 u73 u74 u75 u76 u77 u78 u79 u80 u81 u82 u83 u84 u85 u86 u87 u88 u89 u90 u91 u92 u93 u94 u95 u96 u97 u98 u99 u100 u101 u102 u103 u104 u105 u106 u107 u108 u109 u110 u111 u112 u113 u114 u115 u116 u117 u118 u119 u120 u121 u122 u123 u124 u125 u126 u127 u128 u129 u130 u131 u132 : Value) :
    Code.wp Try.prog addLast (bodyPost Try.prog Try.f17 (AddPost W b e F v0 v1 key)) ⟨#[.pointer (some ⟨b, 0, none⟩), .int .u64 key, u2, u3, .bool false, .int .i64 0, .pointer (some ⟨W.heap.size, 0, none⟩), .pointer (some ⟨g7, 0, none⟩), .pointer (some ⟨g8, 0, none⟩), u9, u10, u11, u12, u13, u14, u15, u16, u17, u18, u19, u20, u21, u22, u23, u24, u25, u26, u27, u28, u29, u30, u31, u32, u33, u34, u35, u36, u37, u38, u39, u40, u41, u42, u43, u44, u45, u46, u47, u48, u49, u50, u51, u52, u53, u54, u55, u56, u57, u58, u59, u60, u61, u62, u63, u64, u65, u66, u67, u68, u69, u70, u71, u72, u73, u74, u75, u76, u77, u78, u79, u80, u81, u82, u83, u84, u85, u86, u87, u88, u89, u90, u91, u92, u93, u94, u95, u96, u97, u98, u99, u100, u101, u102, u103, u104, u105, u106, u107, u108, u109, u110, u111, u112, u113, u114, u115, u116, u117, u118, u119, u120, u121, u122, u123, u124, u125, u126, u127, u128, u129, u130, u131, u132], []⟩ wc := by
  conv => arg 2; whnf
  have HL := Lib.hid hlt
  obtain ⟨y0, y1, _, _⟩ := HD.out.l.cells2
  obtain ⟨y2, y3, _, _⟩ := HD.out.t.cells2
  have z2 : wc.cell? ⟨b, 2, none⟩ = some (.int .u64 last) := HD.out.m.blk.cell 2
  have z3 : wc.cell? ⟨b, 3, none⟩ = some (.int .u64 F.low.1) := HD.out.m.blk.cell 3
  have z4 : wc.cell? ⟨b, 4, none⟩ = some (.int .u64 F.low.2) := HD.out.m.blk.cell 4
  have z5 : wc.cell? ⟨b, 5, none⟩ = some (.int .u64 F.top.1) := HD.out.m.blk.cell 5
  have z6 : wc.cell? ⟨b, 6, none⟩ = some (.int .u64 F.top.2) := HD.out.m.blk.cell 6
  have f2 : wc.frozen? ⟨b, 2, none⟩ = false := HD.out.m.blk.free 2
  have f3 : wc.frozen? ⟨b, 3, none⟩ = false := HD.out.m.blk.free 3
  have f4 : wc.frozen? ⟨b, 4, none⟩ = false := HD.out.m.blk.free 4
  have f5 : wc.frozen? ⟨b, 5, none⟩ = false := HD.out.m.blk.free 5
  have f6 : wc.frozen? ⟨b, 6, none⟩ = false := HD.out.m.blk.free 6
  have n7 : (g7 = b) = False := by have := C.out.H.blk.lt; have := HD.out.lo7; simp; omega
  have n8 : (g8 = b) = False := by have := C.out.H.blk.lt; have := HD.out.lo8; simp; omega
  clear hlt
  go_wp2_with fail
  go_big_region
  have HM := Lib.hid (HD.out.stored (key := key))
  change Exit.then _ _ Exit.normal _ (st5 wc b (F.lowWith e key) (F.topWith e key) key).drew
  clear y0 y1 y2 y3 z2 z3 z4 z5 z6 f2 f3 f4 f5 f6 n7 n8 HD
  generalize st5 wc b (F.lowWith e key) (F.topWith e key) key = w2 at *
  have q1 : w2.cell? ⟨b, 1, none⟩ = some (.int .i64 n) := HM.out.1.blk.cell 1
  have q2 : w2.frozen? ⟨b, 1, none⟩ = false := HM.out.1.blk.free 1
  have hn2 : (n : Int) ≤ 17592186044416 := by have := C.out.big; omega
  go_wp2_with fail
  go_ret2
  exact C.out.took HM.out.1 HM.out.2 HL.out
end Go.Proofs.Ytanhhgifcolfaaa
