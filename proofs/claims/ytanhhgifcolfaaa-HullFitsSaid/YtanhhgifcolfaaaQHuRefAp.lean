/-
  The reference's Add: the keys grow.
-/
import Derived.Test.YtanhhgifcolfaaaQHuRefAdd
import Derived.Test.YtanhhgifcolfaaaQG1
namespace Go.Proofs.Ytanhhgifcolfaaa
open Go.RowKit
set_option linter.unusedVariables false
set_option linter.unusedSimpArgs false

theorem infoU : (Try.prog.info? 34).map (fun i => (i.zero, i.size, i.bytes)) = some (some (.int .u64 0), 1, 8) := by kernel_rfl
/-- What stands in memory while the reference's Add asks its keys. -/
structure RL (W : World) (b : Nat) (e : Int) (F : Fit) (v : Value) (g8 g9 : Nat) (l t : Fr) (w : World) : Prop where
  m : RefM w b e F v
  l : Blk w g8 39 #[.int .u64 l.1, .int .u64 l.2]
  t : Blk w g9 39 #[.int .u64 t.1, .int .u64 t.2]
  bel : Below W.heap.size W w
section
variable {W w w' : World} {b : Nat} {e : Int} {F : Fit} {v : Value} {g8 g9 : Nat} {l t : Fr}
theorem RL.below (h : RL W b e F v g8 g9 l t w) (k : Below w.heap.size w w') : RL W b e F v g8 g9 l t w' := ⟨h.m.below k, h.l.below k, h.t.below k, below_next h.bel k⟩
theorem RL.alloc (h : RL W b e F v g8 g9 l t w) (o : Obj) : RL W b e F v g8 g9 l t (w.alloc o) := h.below (below_new (Below.refl _ _) o)
theorem RL.setL (h : RL W b e F v g8 g9 l t w) (HW : RefM W b e F v) (h8 : W.heap.size ≤ g8) (hne : g8 ≠ g9) (l' : Fr) : RL W b e F v g8 g9 l' t ((w.setCell ⟨g8, 0, none⟩ (.int .u64 l'.1)).setCell ⟨g8, 1, none⟩ (.int .u64 l'.2)) :=
  ⟨h.m.chg (((Chg.refl (fun k => k = g8) _).setCell (fun _ => rfl) _).setCell (fun _ => rfl) _) (by have := HW.blk.lt; omega) (fun g hg => by have := own_lt HW.row hg; omega), h.l.set2, h.t.far2 (Ne.symm hne), below_set2 h.bel h8⟩
theorem RL.setT (h : RL W b e F v g8 g9 l t w) (HW : RefM W b e F v) (h9 : W.heap.size ≤ g9) (hne : g8 ≠ g9) (t' : Fr) : RL W b e F v g8 g9 l t' ((w.setCell ⟨g9, 0, none⟩ (.int .u64 t'.1)).setCell ⟨g9, 1, none⟩ (.int .u64 t'.2)) :=
  ⟨h.m.chg (((Chg.refl (fun k => k = g9) _).setCell (fun _ => rfl) _).setCell (fun _ => rfl) _) (by have := HW.blk.lt; omega) (fun g hg => by have := own_lt HW.row hg; omega), h.l.far2 hne, h.t.set2, below_set2 h.bel h9⟩
end
noncomputable def refAp : Code := regAt 20 (Try.f18.body.getD .skip)
/-- The keys with one more, in their place. -/
structure RA (w : World) (b : Nat) (e : Int) (F : Fit) (v v' : Value) (key : Int) (w' : World) : Prop where
  blk : Blk w' b 64 #[.int .i64 (e + 1), v', .int .u64 F.low.1, .int .u64 F.low.2, .int .u64 F.top.1, .int .u64 F.top.2]
  row : w'.ownsRow 0 34 1 v' (F.keys ++ [key]).length ((F.keys ++ [key]).map (.int .u64))
  chg : Chg (fun k => k = b ∨ v.ownBlock = some k) w w'
  own : ∀ g, v'.ownBlock = some g → v.ownBlock = some g ∨ w.heap.size ≤ g
theorem RA.mk' {w w1 : World} {b : Nat} {e : Int} {F : Fit} {v : Value} {key : Int} {g cap : Nat} {wa : World} (M : RefM w b e F v) (ha : Chg (fun _ => False) w wa)
    (hown : w1.ownsRow 0 34 1 (.slice (some ⟨g, 0, none⟩) (F.keys.length + 1) cap) (F.keys.length + 1) (F.keys.map (.int .u64) ++ [.int .u64 key])) (hgr : wa.grownBy w1 v.ownBlock) (hat : v.ownBlock = some g ∨ w.heap.size ≤ g) :
    RA w b e F v (.slice (some ⟨g, 0, none⟩) (F.keys.length + 1) cap) key (w1.setCell ⟨b, 1, none⟩ (.slice (some ⟨g, 0, none⟩) (F.keys.length + 1) cap)) := by
  have c1 : Chg (fun k => k = b ∨ v.ownBlock = some k) w w1 := (ha.mono (fun _ _ h => h.elim)).grown hgr (fun k hk _ => .inr hk)
  have hb1 : Blk w1 b 64 #[.int .i64 (e + 1), v, .int .u64 F.low.1, .int .u64 F.low.2, .int .u64 F.top.1, .int .u64 F.top.2] := (hgr.block b ((M.blk.chg ha (fun h => h)).lt) (fun e => M.ne e.symm)).trans (M.blk.chg ha (fun h => h))
  have hgb : g ≠ b := by
    rcases hat with h | h
    · rintro rfl; exact M.ne h
    · have := M.blk.lt; omega
  refine ⟨hb1.set 1 _, ?_, c1.setCell (fun _ => .inl rfl) _, fun g' hg' => ?_⟩
  · have := own_far hown (p := ⟨b, 1, none⟩) (by simp [Value.ownBlock]; omega) (.slice (some ⟨g, 0, none⟩) (F.keys.length + 1) cap)
    simpa using this
  · simp only [Value.ownBlock, Option.some.injEq] at hg'
    subst hg'; exact hat
theorem ref_grown {w w1 : World} {b : Nat} {e : Int} {F : Fit} {A : Option Addr} {c : Nat} {key : Int} {g cap : Nat} {o : Obj} (M : RefM w b e F (.slice A F.keys.length c))
    (hown : w1.ownsRow 0 34 1 (.slice (some ⟨g, 0, none⟩) (F.keys.length + 1) cap) (F.keys.length + 1) (F.keys.map (.int .u64) ++ [.int .u64 key])) (hgr : (w.alloc o).grownBy w1 (Value.slice A F.keys.length c).ownBlock) (hat : (Value.slice A F.keys.length c).ownBlock = some g ∨ g = w.heap.size + 1) :
    w1.cell? ⟨b, 1, none⟩ = some (.slice A F.keys.length c) ∧ w1.frozen? ⟨b, 1, none⟩ = false ∧ Hid (RA w b e F (.slice A F.keys.length c) (.slice (some ⟨g, 0, none⟩) (F.keys.length + 1) cap) key (w1.setCell ⟨b, 1, none⟩ (.slice (some ⟨g, 0, none⟩) (F.keys.length + 1) cap))) := by
  have hb1 : Blk w1 b 64 #[.int .i64 (e + 1), (.slice A F.keys.length c), .int .u64 F.low.1, .int .u64 F.low.2, .int .u64 F.top.1, .int .u64 F.top.2] := (hgr.block b ((M.blk.alloc o).lt) (fun e => M.ne e.symm)).trans (M.blk.alloc o)
  exact ⟨hb1.cell 1, hb1.free 1, Lib.hid (RA.mk' M ((Chg.refl (fun _ => False) w).alloc o) hown hgr (hat.imp id (fun h => by omega)))⟩
set_option maxHeartbeats 4000000 in
set_option maxRecDepth 100000 in
theorem ref_append {b : Nat} {e : Int} {F : Fit} {v : Value} {key : Int} (hbig : F.keys.length < 17592186044416) {w : World} (M : RefM w b e F v) (u2 u3 u4 u5 u6 u7 u8 u9 u10 u11 u12 u13 u14 u15 u16 u17 u18 u19 u20 u21 u22 u23 u24 u25 u26 u27 u28 u29 u30 u31 u32 u33 u34 u35 u36 u37 u38 u39 u40 u41 u42 u43 u44 u45 u46 u47 u48 u49 u50 u51 u52 u53 u54 u55 u56 u57 u58 u59 u60 u61 u62 u63 u64 u65 u66 u67 u68 u69 u70 u71 u72 u73 u74 u75 u76 u77 u78 u79 u80 u81 u82 u83 u84 u85 u86 u87 u88 u89 u90 u91 u92 u93 u94 u95 u96 u97 u98 u99 u100 u101 u102 u103 u104 u105 u106 u107 u108 u109 u110 u111 u112 u113 : Value) {Q : Exit → Act → World → Prop}
    (hQ : ∀ (v' : Value) (x96 x97 x98 x99 x100 x101 x102 x103 x104 x105 : Value) (w5 : World), RA w b e F v v' key w5 → Q .normal ⟨#[.pointer (some ⟨b, 0, none⟩), .int .u64 key, u2, u3, u4, u5, u6, u7, u8, u9, u10, u11, u12, u13, u14, u15, u16, u17, u18, u19, u20, u21, u22, u23, u24, u25, u26, u27, u28, u29, u30, u31, u32, u33, u34, u35, u36, u37, u38, u39, u40, u41, u42, u43, u44, u45, u46, u47, u48, u49, u50, u51, u52, u53, u54, u55, u56, u57, u58, u59, u60, u61, u62, u63, u64, u65, u66, u67, u68, u69, u70, u71, u72, u73, u74, u75, u76, u77, u78, u79, u80, u81, u82, u83, u84, u85, u86, u87, u88, u89, u90, u91, u92, u93, u94, u95, x96, x97, x98, x99, x100, x101, x102, x103, x104, x105, u106, u107, u108, u109, u110, u111, u112, u113], []⟩ w5) :
    Code.wp Try.prog refAp Q ⟨#[.pointer (some ⟨b, 0, none⟩), .int .u64 key, u2, u3, u4, u5, u6, u7, u8, u9, u10, u11, u12, u13, u14, u15, u16, u17, u18, u19, u20, u21, u22, u23, u24, u25, u26, u27, u28, u29, u30, u31, u32, u33, u34, u35, u36, u37, u38, u39, u40, u41, u42, u43, u44, u45, u46, u47, u48, u49, u50, u51, u52, u53, u54, u55, u56, u57, u58, u59, u60, u61, u62, u63, u64, u65, u66, u67, u68, u69, u70, u71, u72, u73, u74, u75, u76, u77, u78, u79, u80, u81, u82, u83, u84, u85, u86, u87, u88, u89, u90, u91, u92, u93, u94, u95, u96, u97, u98, u99, u100, u101, u102, u103, u104, u105, u106, u107, u108, u109, u110, u111, u112, u113], []⟩ w := by
  conv => arg 2; whnf
  have HQ := Lib.hid hQ
  have HM := Lib.hid M
  have HB := Lib.hid hbig
  obtain ⟨i0, hi, hz0, hz1, hz2⟩ := info_parts infoU
  have HFO : Hid (∀ u ∈ ([.int .u64 key] : List Value), u.oneCell' = true) := Lib.hid (by intro u hu; simp at hu; rcases hu with rfl; rfl)
  obtain ⟨A, c, hv, _⟩ := M.form
  subst hv
  have c1 : w.cell? ⟨b, 1, none⟩ = some (.slice A F.keys.length c) := M.blk.cell 1
  have c2 : ∀ o, (w.alloc o).cell? ⟨b, 1, none⟩ = some (.slice A F.keys.length c) := fun o => (M.blk.alloc o).cell 1
  clear hQ M hbig
  have hb1 := HB.out
  have HO : Hid ((w.alloc (.cells #[.int .u64 key] 34)).ownsRow 0 34 1 (.slice A F.keys.length c) F.keys.length (F.keys.map (.int .u64))) := Lib.hid (own_chg HM.out.row ((Chg.refl (fun _ => False) w).alloc _) (fun _ _ h => h))
  go_wp2_with (at_builtin; go_loud (refine wpList_append_lies _ rfl (.tmp 100) (.tmp 102) 22 (by rfl) 0 34 i0 _ 1 8 Try.underlying22 hi hz0 hz1 hz2 rfl (by omega) (.slice A F.keys.length c) F.keys.length (F.keys.map (.int .u64)) (by rfl) HO.out ⟨w.heap.size, 0, none⟩ 1 1 [.int .u64 key] (by rfl) (by rfl) (World.news_of_block (Blk.new w 34 #[.int .u64 key])) HFO.out (by omega) (by unfold maxLen; omega) (by omega) (Nat.zero_le _) (w.heap.size + 1) (by simp) ?_; intro g cap w1 hown hgr hat hlt; obtain ⟨q1, q2, HR⟩ := ref_grown HM.out hown hgr hat; clear hown hgr hat hlt))
  all_goals exact HQ.out _ _ _ _ _ _ _ _ _ _ _ _ HR.out
end Go.Proofs.Ytanhhgifcolfaaa
