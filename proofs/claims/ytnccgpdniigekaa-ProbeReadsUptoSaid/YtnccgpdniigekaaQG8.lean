/-
  The reference's lowest; its fits in memory.
-/
import Derived.Test.YtnccgpdniigekaaQG31
import Derived.Test.YtnccgpdniigekaaQG1
import Derived.Deep.CutBlock
import Derived.Deep.DeepCutAuto
namespace Go.Proofs.Ytnccgpdniigekaa
open Go.RowKit
set_option linter.unusedVariables false
set_option linter.unusedSimpArgs false

theorem gcd_emod' (a b : Int) (ha : 0 ≤ a) (hb : 0 ≤ b) : Int.gcd b (a % b) = Int.gcd a b := by
  rw [Int.gcd_comm b (a % b), gcd_emod b a hb ha, Int.gcd_comm]
set_option maxHeartbeats 1000000 in
theorem ref_lowest (n d : Int) (hn : u64ok n) (hd : u64ok d) (h0 : 0 < d) (w : World) :
    Calls Try.prog 84 #[.int .u64 n, .int .u64 d] w fun e w' => e = .returned (.agg #[.int .u64 (lowest n d).1, .int .u64 (lowest n d).2]) ∧ Below w.heap.size w w' := by
  unfold u64ok at hn hd
  have HL : Hid (lowest n d = (n / (Int.gcd n d : Nat), d / (Int.gcd n d : Nat))) := Lib.hid rfl
  have HG : Hid (0 < ((Int.gcd n d : Nat) : Int) ∧ 0 ≤ n / ((Int.gcd n d : Nat) : Int) ∧ n / ((Int.gcd n d : Nat) : Int) ≤ n ∧ 0 ≤ d / ((Int.gcd n d : Nat) : Int) ∧ d / ((Int.gcd n d : Nat) : Int) ≤ d) := by
    have h : 0 < Int.gcd n d := Int.gcd_pos_of_ne_zero_right _ (by omega)
    exact Lib.hid ⟨by omega, Int.ediv_nonneg hn.1 (by omega), Int.ediv_le_self _ hn.1, Int.ediv_nonneg hd.1 (by omega), Int.ediv_le_self _ hd.1⟩
  go_enter Try.func84, Try.ntmps84
  go_wp2
  go_loop [5, 6] (fun x y => GcdTo n d x y) (fun _ y => (intOf y).toNat)
  case atStart => exact ⟨n, d, rfl, rfl, hn.1, hd.1, .inr h0, by omega, by omega, rfl⟩
  case round =>
    obtain ⟨a, b, rfl, rfl, ha, hb, hab, hb2, ha2, hg⟩ := hrel
    by_cases hp : 0 < b
    · have G := Lib.hid (gcd_emod' a b ha hb)
      have m1 := Int.emod_nonneg a (show b ≠ 0 by omega)
      have m2 := Int.emod_lt_of_pos a hp
      have hb0 : (b == 0) = false := by
        have : b ≠ 0 := by omega
        simpa using this
      have hb1 : (b != 0) = true := by
        have : b ≠ 0 := by omega
        simpa using this
      have tm : a.tmod b = a % b := Int.tmod_eq_emod_of_nonneg ha
      go_wp2
      go_round
      case rel => exact ⟨_, _, rfl, rfl, by omega, by omega, .inl hp, by omega, by omega, by rw [G.out, hg]⟩
      case measure => simp only [intOf]; omega
    · obtain rfl : b = 0 := by omega
      have hgb : ((Int.gcd n d : Nat) : Int) = a := by rw [← hg, Int.gcd_zero_right]; omega
      rw [hgb] at HL HG
      obtain ⟨g0, g1, g2, g3, g4⟩ := HG.out
      have b0 : (a == 0) = false := by
        have : a ≠ 0 := by omega
        simpa using this
      have b1 : a ≠ 0 := by omega
      have t1 : n.tdiv a = n / a := Int.tdiv_eq_ediv_of_nonneg hn.1
      have t2 : d.tdiv a = d / a := Int.tdiv_eq_ediv_of_nonneg hd.1
      go_wp2_with fail
      go_big_region
      all_goals go_wp2_with fail
      all_goals refine bodyPost_ret (v := .agg #[.int .u64 (lowest n d).1, .int .u64 (lowest n d).2]) (results_cl (p := 4) (ty := 122) (t := 122) rfl _ rfl ?_ Try.underlying122 rfl (by kernel_rfl)) rfl ?_
      · rw [HL.out]; exact (Blk.new _ _ _).drew
      · exact ⟨rfl, (below_new (Below.refl _ _) _).drew⟩
/-- The reference's fit behind a pointer. -/
structure RefM (w : World) (b : Nat) (e : Int) (F : Fit) (v : Value) : Prop where
  blk : Blk w b 124 #[.int .i64 (e + 1), v, .int .u64 F.low.1, .int .u64 F.low.2, .int .u64 F.top.1, .int .u64 F.top.2]
  row : w.ownsRow 0 24 1 v F.keys.length (F.keys.map (.int .u64))
/-- The same, and the blocks that are its own. -/
def RefO (w : World) (b : Nat) (e : Int) (F : Fit) (S : Nat → Prop) : Prop := ∃ v, RefM w b e F v ∧ (∃ c0 c1, FitS e F c0 c1) ∧ S = fun k => k = b ∨ v.ownBlock = some k
section
variable {w w' : World} {b : Nat} {e : Int} {F : Fit} {v : Value} {S T : Nat → Prop}
theorem RefM.ne (h : RefM w b e F v) : v.ownBlock ≠ some b := own_ne_blk h.row h.blk (by decide)
theorem RefM.chg (h : RefM w b e F v) (k : Chg T w w') (hb : ¬ T b) (hv : ∀ g, v.ownBlock = some g → ¬ T g) : RefM w' b e F v := ⟨h.blk.chg k hb, own_chg h.row k hv⟩
theorem RefM.below (h : RefM w b e F v) (k : Below w.heap.size w w') : RefM w' b e F v := h.chg (Chg.of_below k) (fun h => h) (fun _ _ h => h)
theorem RefO.lt (h : RefO w b e F S) : ∀ k, S k → k < w.heap.size := by
  obtain ⟨v, M, _, rfl⟩ := h
  rintro k (rfl | h)
  · exact M.blk.lt
  · exact own_lt M.row h
theorem RefO.chg (h : RefO w b e F S) (k : Chg T w w') (hd : ∀ i, S i → ¬ T i) : RefO w' b e F S := by
  obtain ⟨v, M, Q, rfl⟩ := h
  exact ⟨v, M.chg k (hd b (.inl rfl)) (fun g hg => hd g (.inr hg)), Q, rfl⟩
theorem RefO.below (h : RefO w b e F S) (k : Below w.heap.size w w') : RefO w' b e F S := h.chg (Chg.of_below k) (fun _ _ h => h)
theorem RefM.form (h : RefM w b e F v) : ∃ A c, v = .slice A F.keys.length c ∧ (0 < F.keys.length → ∃ g, A = some ⟨g, 0, none⟩ ∧ ∀ i (hi : i < F.keys.length), w.cell? ⟨g, i, none⟩ = some (.int .u64 F.keys[i])) := by
  rcases h.row.2 with ⟨hv, h0⟩ | ⟨g, cap, cur, hv, hr⟩
  · exact ⟨none, 0, by rw [hv, h0], fun h => by omega⟩
  · refine ⟨_, _, hv, fun _ => ⟨g, rfl, fun i hi => ?_⟩⟩
    have hc := World.ownsRow.cells h.row (g := g) (by rw [hv]; rfl) i (.int .u64 F.keys[i]) (by simp [List.getElem?_eq_getElem hi])
    rw [Addr.add_mid, Nat.zero_add] at hc
    exact hc
theorem refO_Least (H : RefO w b e F S) : Calls Try.prog 86 #[.pointer (some ⟨b, 0, none⟩)] w fun e' w' => e' = .returned (.agg #[.int .u64 F.low.1, .int .u64 F.low.2]) ∧ Below w.heap.size w w' := by
  obtain ⟨v, M, Q, rfl⟩ := H
  have N := M.below (below_new (Below.refl _ _) (.cells #[.int .u64 0, .int .u64 0] 122))
  have x0 : (w.alloc (.cells #[.int .u64 0, .int .u64 0] 122)).cell? ⟨b, 2, none⟩ = some (.int .u64 F.low.1) := N.blk.cell 2
  have x1 : (w.alloc (.cells #[.int .u64 0, .int .u64 0] 122)).cell? ⟨b, 3, none⟩ = some (.int .u64 F.low.2) := N.blk.cell 3
  have hb : b < w.heap.size := M.blk.lt
  clear M Q N
  go_enter Try.func86, Try.ntmps86
  go_wp2
  refine bodyPost_ret (v := .agg #[.int .u64 F.low.1, .int .u64 F.low.2]) (results_cl (p := 2) (ty := 122) (t := 122) rfl _ rfl (Blk.new _ _ _) Try.underlying122 rfl (by kernel_rfl)) rfl ?_
  exact ⟨rfl, below_new (Below.refl _ _) _⟩
end
theorem ref_New_bad (eps : Int) (h : eps < 2 ∨ 64 < eps) (w : World) : Calls Try.prog 68 #[.int .i64 eps] w fun e' w' => e' = .returned (.tuple #[.pointer none, .int .i64 1]) ∧ w = w' := by
  by_cases h1 : eps < 2
  · go_enter Try.func68, Try.ntmps68
    go_wp2
    go_ret2
    exact ⟨rfl, rfl⟩
  · have h2 : 64 < eps := by omega
    go_enter Try.func68, Try.ntmps68
    go_wp2
    go_ret2
    exact ⟨rfl, rfl⟩
theorem ref_New (eps : Int) (h1 : 2 ≤ eps) (h2 : eps ≤ 64) (w : World) : Calls Try.prog 68 #[.int .i64 eps] w fun e' w' =>
    e' = .returned (.tuple #[.pointer (some ⟨w.heap.size, 0, none⟩), .int .i64 0]) ∧ Below w.heap.size w w' ∧ RefO w' w.heap.size (eps - 1) Fit.zero (fun k => k = w.heap.size) := by
  have h3 : ¬ eps < 2 := by omega
  have h4 : ¬ 64 < eps := by omega
  go_enter Try.func68, Try.ntmps68
  go_wp2
  go_ret2
  refine ⟨rfl, below_new (Below.refl _ _) _, .slice none 0 0, ⟨?_, World.ownsRow_nil _ _ _ _⟩, ⟨[], [], FitS.zero (by omega) (by omega)⟩, ?_⟩
  · have := Blk.new w 124 #[.int .i64 eps, .slice none 0 0, .int .u64 0, .int .u64 1, .int .u64 1, .int .u64 0]
    rw [show eps - 1 + 1 = eps from by omega]; exact this
  · funext k; simp [Value.ownBlock]
end Go.Proofs.Ytnccgpdniigekaa
/-
  The reference's Add: the keys grow.
-/
namespace Go.Proofs.Ytnccgpdniigekaa
open Go.RowKit
set_option linter.unusedVariables false
set_option linter.unusedSimpArgs false

theorem infoU : (Try.prog.info? 24).map (fun i => (i.zero, i.size, i.bytes)) = some (some (.int .u64 0), 1, 8) := by kernel_rfl
/-- What stands in memory while the reference's Add asks its keys. -/
structure RL (W : World) (b : Nat) (e : Int) (F : Fit) (v : Value) (g8 g9 : Nat) (l t : Fr) (w : World) : Prop where
  m : RefM w b e F v
  l : Blk w g8 122 #[.int .u64 l.1, .int .u64 l.2]
  t : Blk w g9 122 #[.int .u64 t.1, .int .u64 t.2]
  bel : Below W.heap.size W w
section
variable {W w w' : World} {b : Nat} {e : Int} {F : Fit} {v : Value} {g8 g9 : Nat} {l t : Fr}
theorem RL.below (h : RL W b e F v g8 g9 l t w) (k : Below w.heap.size w w') : RL W b e F v g8 g9 l t w' := ⟨h.m.below k, h.l.below k, h.t.below k, below_next h.bel k⟩
theorem RL.alloc (h : RL W b e F v g8 g9 l t w) (o : Obj) : RL W b e F v g8 g9 l t (w.alloc o) := h.below (below_new (Below.refl _ _) o)
theorem RL.setL (h : RL W b e F v g8 g9 l t w) (HW : RefM W b e F v) (h8 : W.heap.size ≤ g8) (hne : g8 ≠ g9) (l' : Fr) : RL W b e F v g8 g9 l' t ((w.setCell ⟨g8, 0, none⟩ (.int .u64 l'.1)).setCell ⟨g8, 1, none⟩ (.int .u64 l'.2)) :=
  ⟨h.m.chg (((Chg.refl (fun k => k = g8) _).setCell (fun _ => rfl) _).setCell (fun _ => rfl) _) (by have := HW.blk.lt; omega) (fun g hg => by have := own_lt HW.row hg; omega), h.l.set2, h.t.far2 (Ne.symm hne), below_set2 h.bel h8⟩
theorem RL.setT (h : RL W b e F v g8 g9 l t w) (HW : RefM W b e F v) (h9 : W.heap.size ≤ g9) (hne : g8 ≠ g9) (t' : Fr) : RL W b e F v g8 g9 l t' ((w.setCell ⟨g9, 0, none⟩ (.int .u64 t'.1)).setCell ⟨g9, 1, none⟩ (.int .u64 t'.2)) :=
  ⟨h.m.chg (((Chg.refl (fun k => k = g9) _).setCell (fun _ => rfl) _).setCell (fun _ => rfl) _) (by have := HW.blk.lt; omega) (fun g hg => by have := own_lt HW.row hg; omega), h.l.far2 hne, h.t.set2, below_set2 h.bel h9⟩
end
noncomputable def refAp : Code := regAt 20 (Try.f69.body.getD .skip)
/-- The keys with one more, in their place. -/
structure RA (w : World) (b : Nat) (e : Int) (F : Fit) (v v' : Value) (key : Int) (w' : World) : Prop where
  blk : Blk w' b 124 #[.int .i64 (e + 1), v', .int .u64 F.low.1, .int .u64 F.low.2, .int .u64 F.top.1, .int .u64 F.top.2]
  row : w'.ownsRow 0 24 1 v' (F.keys ++ [key]).length ((F.keys ++ [key]).map (.int .u64))
  chg : Chg (fun k => k = b ∨ v.ownBlock = some k) w w'
  own : ∀ g, v'.ownBlock = some g → v.ownBlock = some g ∨ w.heap.size ≤ g
theorem RA.mk' {w w1 : World} {b : Nat} {e : Int} {F : Fit} {v : Value} {key : Int} {g cap : Nat} {wa : World} (M : RefM w b e F v) (ha : Chg (fun _ => False) w wa)
    (hown : w1.ownsRow 0 24 1 (.slice (some ⟨g, 0, none⟩) (F.keys.length + 1) cap) (F.keys.length + 1) (F.keys.map (.int .u64) ++ [.int .u64 key])) (hgr : wa.grownBy w1 v.ownBlock) (hat : v.ownBlock = some g ∨ w.heap.size ≤ g) :
    RA w b e F v (.slice (some ⟨g, 0, none⟩) (F.keys.length + 1) cap) key (w1.setCell ⟨b, 1, none⟩ (.slice (some ⟨g, 0, none⟩) (F.keys.length + 1) cap)) := by
  have c1 : Chg (fun k => k = b ∨ v.ownBlock = some k) w w1 := (ha.mono (fun _ _ h => h.elim)).grown hgr (fun k hk _ => .inr hk)
  have hb1 : Blk w1 b 124 #[.int .i64 (e + 1), v, .int .u64 F.low.1, .int .u64 F.low.2, .int .u64 F.top.1, .int .u64 F.top.2] := (hgr.block b ((M.blk.chg ha (fun h => h)).lt) (fun e => M.ne e.symm)).trans (M.blk.chg ha (fun h => h))
  have hgb : g ≠ b := by
    rcases hat with h | h
    · rintro rfl; exact M.ne h
    · have := M.blk.lt; omega
  refine ⟨hb1.set 1 _, ?_, c1.setCell (fun _ => .inl rfl) _, fun g' hg' => ?_⟩
  · have := own_far hown (p := ⟨b, 1, none⟩) (by simp [Value.ownBlock]; omega) (.slice (some ⟨g, 0, none⟩) (F.keys.length + 1) cap)
    simpa using this
  · simp only [Value.ownBlock, Option.some.injEq] at hg'
    subst hg'; exact hat
theorem ref_grown {w w1 : World} {b : Nat} {e : Int} {F : Fit} {A : Option Addr} {c : Nat} {key : Int} {g cap : Nat} {o : Obj} (M : RefM w b e F (.slice A F.keys.length c))
    (hown : w1.ownsRow 0 24 1 (.slice (some ⟨g, 0, none⟩) (F.keys.length + 1) cap) (F.keys.length + 1) (F.keys.map (.int .u64) ++ [.int .u64 key])) (hgr : (w.alloc o).grownBy w1 (Value.slice A F.keys.length c).ownBlock) (hat : (Value.slice A F.keys.length c).ownBlock = some g ∨ g = w.heap.size + 1) :
    w1.cell? ⟨b, 1, none⟩ = some (.slice A F.keys.length c) ∧ w1.frozen? ⟨b, 1, none⟩ = false ∧ Hid (RA w b e F (.slice A F.keys.length c) (.slice (some ⟨g, 0, none⟩) (F.keys.length + 1) cap) key (w1.setCell ⟨b, 1, none⟩ (.slice (some ⟨g, 0, none⟩) (F.keys.length + 1) cap))) := by
  have hb1 : Blk w1 b 124 #[.int .i64 (e + 1), (.slice A F.keys.length c), .int .u64 F.low.1, .int .u64 F.low.2, .int .u64 F.top.1, .int .u64 F.top.2] := (hgr.block b ((M.blk.alloc o).lt) (fun e => M.ne e.symm)).trans (M.blk.alloc o)
  exact ⟨hb1.cell 1, hb1.free 1, Lib.hid (RA.mk' M ((Chg.refl (fun _ => False) w).alloc o) hown hgr (hat.imp id (fun h => by omega)))⟩
set_option maxHeartbeats 4000000 in
set_option maxRecDepth 100000 in
theorem ref_append {b : Nat} {e : Int} {F : Fit} {v : Value} {key : Int} (hbig : F.keys.length < 17592186044416) {w : World} (M : RefM w b e F v) (u2 u3 u4 u5 u6 u7 u8 u9 u10 u11 u12 u13 u14 u15 u16 u17 u18 u19 u20 u21 u22 u23 u24 u25 u26 u27 u28 u29 u30 u31 u32 u33 u34 u35 u36 u37 u38 u39 u40 u41 u42 u43 u44 u45 u46 u47 u48 u49 u50 u51 u52 u53 u54 u55 u56 u57 u58 u59 u60 u61 u62 u63 u64 u65 u66 u67 u68 u69 u70 u71 u72 u73 u74 u75 u76 u77 u78 u79 u80 u81 u82 u83 u84 u85 u86 u87 u88 u89 u90 u91 u92 u93 u94 u95 u96 u97 u98 u99 u100 u101 u102 u103 u104 u105 u106 u107 u108 u109 u110 u111 u112 u113 : Value) {Q : Exit → Act → World → Prop}
    (hQ : ∀ (v' : Value) (x96 x97 x98 x99 x100 x101 x102 x103 x104 x105 : Value) (w5 : World), RA w b e F v v' key w5 → Q .normal ⟨#[.pointer (some ⟨b, 0, none⟩), .int .u64 key, u2, u3, u4, u5, u6, u7, u8, u9, u10, u11, u12, u13, u14, u15, u16, u17, u18, u19, u20, u21, u22, u23, u24, u25, u26, u27, u28, u29, u30, u31, u32, u33, u34, u35, u36, u37, u38, u39, u40, u41, u42, u43, u44, u45, u46, u47, u48, u49, u50, u51, u52, u53, u54, u55, u56, u57, u58, u59, u60, u61, u62, u63, u64, u65, u66, u67, u68, u69, u70, u71, u72, u73, u74, u75, u76, u77, u78, u79, u80, u81, u82, u83, u84, u85, u86, u87, u88, u89, u90, u91, u92, u93, u94, u95, x96, x97, x98, x99, x100, x101, x102, x103, x104, x105, u106, u107, u108, u109, u110, u111, u112, u113], []⟩ w5) :
    Code.wp Try.prog refAp Q ⟨#[.pointer (some ⟨b, 0, none⟩), .int .u64 key, u2, u3, u4, u5, u6, u7, u8, u9, u10, u11, u12, u13, u14, u15, u16, u17, u18, u19, u20, u21, u22, u23, u24, u25, u26, u27, u28, u29, u30, u31, u32, u33, u34, u35, u36, u37, u38, u39, u40, u41, u42, u43, u44, u45, u46, u47, u48, u49, u50, u51, u52, u53, u54, u55, u56, u57, u58, u59, u60, u61, u62, u63, u64, u65, u66, u67, u68, u69, u70, u71, u72, u73, u74, u75, u76, u77, u78, u79, u80, u81, u82, u83, u84, u85, u86, u87, u88, u89, u90, u91, u92, u93, u94, u95, u96, u97, u98, u99, u100, u101, u102, u103, u104, u105, u106, u107, u108, u109, u110, u111, u112, u113], []⟩ w := by
  conv => arg 2; whnf
  have HQ := Lib.hid hQ
  have HM := Lib.hid M
  have HB := Lib.hid hbig
  obtain ⟨i0, hi, hz0, hz1, hz2⟩ := info_parts infoU
  have HFO : Hid (∀ u ∈ ([.int .u64 key] : List Value), u.oneCell' = true) := Lib.hid (by intro u hu; simp at hu; rcases hu with rfl; rfl)
  obtain ⟨A, c, hv, _⟩ := M.form
  subst hv
  have c1 : w.cell? ⟨b, 1, none⟩ = some (.slice A F.keys.length c) := M.blk.cell 1
  have c2 : ∀ o, (w.alloc o).cell? ⟨b, 1, none⟩ = some (.slice A F.keys.length c) := fun o => (M.blk.alloc o).cell 1
  clear hQ M hbig
  have hb1 := HB.out
  have HO : Hid ((w.alloc (.cells #[.int .u64 key] 24)).ownsRow 0 24 1 (.slice A F.keys.length c) F.keys.length (F.keys.map (.int .u64))) := Lib.hid (own_chg HM.out.row ((Chg.refl (fun _ => False) w).alloc _) (fun _ _ h => h))
  go_wp2_with (at_builtin; go_loud (refine wpList_append_lies _ rfl (.tmp 100) (.tmp 102) 22 (by rfl) 0 24 i0 _ 1 8 Try.underlying22 hi hz0 hz1 hz2 rfl (by omega) (.slice A F.keys.length c) F.keys.length (F.keys.map (.int .u64)) (by rfl) HO.out ⟨w.heap.size, 0, none⟩ 1 1 [.int .u64 key] (by rfl) (by rfl) (World.news_of_block (Blk.new w 24 #[.int .u64 key])) HFO.out (by omega) (by unfold maxLen; omega) (by omega) (Nat.zero_le _) (w.heap.size + 1) (by simp) ?_; intro g cap w1 hown hgr hat hlt; obtain ⟨q1, q2, HR⟩ := ref_grown HM.out hown hgr hat; clear hown hgr hat hlt))
  all_goals exact HQ.out _ _ _ _ _ _ _ _ _ _ _ _ HR.out
end Go.Proofs.Ytnccgpdniigekaa
/-
  The reference's Add.
-/
namespace Go.Proofs.Ytnccgpdniigekaa
open Go.RowKit
set_option linter.unusedVariables false
set_option linter.unusedSimpArgs false

theorem RefM.cellAt {w : World} {b : Nat} {e : Int} {F : Fit} {g n c : Nat} (h : RefM w b e F (.slice (some ⟨g, 0, none⟩) n c)) {i : Nat} (hi : i < F.keys.length) : w.cell? ⟨g, i, none⟩ = some (.int .u64 F.keys[i]) := by
  have hc := World.ownsRow.cells h.row (g := g) rfl i (.int .u64 F.keys[i]) (by simp [List.getElem?_eq_getElem hi])
  rw [Addr.add_mid, Nat.zero_add] at hc
  exact hc
/-- What the reference's Add leaves. -/
def RefAddO (w : World) (b : Nat) (e : Int) (F : Fit) (S : Nat → Prop) (key : Int) (w' : World) : Prop :=
  ∃ S', RefO w' b e (F.add e key).2 S' ∧ Chg S w w' ∧ ∀ k, S' k → S k ∨ w.heap.size ≤ k
theorem ref_add_late {w : World} {b : Nat} {e : Int} {F : Fit} {v : Value} {key : Int} (M : RefM w b e F v) (hl : F.late key = true) (he : -1 ≤ e) (he2 : e ≤ 63) (hbig : F.keys.length < 17592186044416) :
    Calls Try.prog 69 #[.pointer (some ⟨b, 0, none⟩), .int .u64 key] w fun e' w' => e' = .returned (.tuple #[.bool false, .int .i64 40]) ∧ w = w' := by
  obtain ⟨A, c, rfl, hA⟩ := M.form
  rw [F.late_eq, Bool.and_eq_true] at hl
  obtain ⟨h1, h2⟩ := hl
  have h1 : 0 < F.keys.length := by simpa using h1
  obtain ⟨g, rfl, hg⟩ := hA h1
  have x1 : w.cell? ⟨b, 1, none⟩ = some (.slice (some ⟨g, 0, none⟩) F.keys.length c) := M.blk.cell 1
  have hL : F.keys[F.keys.length - 1]'(by omega) = F.lst := by
    unfold Fit.lst
    rw [List.getLast?_eq_getElem?, List.getElem?_eq_getElem (by omega), Option.getD_some]
  have x2 := hg (F.keys.length - 1) (by omega)
  rw [hL] at x2
  have e0 : (0 : Int) ≤ (F.keys.length : Int) - 1 := by omega
  have e1 : (F.keys.length : Int) - 1 < (F.keys.length : Int) := by omega
  have e2 : ((F.keys.length : Int) - 1).toNat = F.keys.length - 1 := by omega
  have e3 : IntKind.i64.wrap ((F.keys.length : Int) - 1) = (F.keys.length : Int) - 1 := IntWalk.i64_in _ (by omega)
  clear M hA hg hL hbig
  go_enter Try.func69, Try.ntmps69
  go_wp2
  go_ret2
  exact ⟨rfl, rfl⟩
/-- What the reference's Add is called with. -/
structure RC (W : World) (b : Nat) (e : Int) (F : Fit) (v : Value) (key : Int) : Prop where
  M : RefM W b e F v
  S : ∃ c0 c1, FitS e F c0 c1
  hk : u64ok key
  hl : F.late key = false
  big : F.keys.length < 17592186044416
def lowI (e : Int) (F : Fit) (key : Int) (i : Nat) : Fr := lowUp e F.keys.length key F.keys F.low i
def topI (e : Int) (F : Fit) (key : Int) (i : Nat) : Fr := topUp e F.keys.length key F.keys F.top i
section
variable {W : World} {b : Nat} {e : Int} {F : Fit} {v : Value} {key : Int}
theorem RC.lowI_ok (C : RC W b e F v key) {i : Nat} (hi : i ≤ F.keys.length) : Fr64 (lowI e F key i) ∧ OkF (lowI e F key i) := by
  obtain ⟨c0, c1, S⟩ := C.S
  have hk2 := S.ok.lt C.hl
  rcases (lowUp_max (e := e) (n := F.keys.length) hk2 S.ok.low i hi).is with q | ⟨j, hj, hp, q⟩
  · rw [lowI, q]; exact ⟨S.fl, S.ok.low.ok⟩
  · rw [lowI, q]
    have := hk2 j (by omega); have := S.big; have := C.hk.2; have := S.e0
    have hm : u64ok (F.keys.getD j 0) := S.key _ (by rw [List.getD_eq_getElem?_getD, List.getElem?_eq_getElem (by omega), Option.getD_some]; exact List.getElem_mem (by omega))
    have := hm.1
    exact ⟨Fr64.low (by omega) (by omega) (by omega) (by omega), (lowest_low (by omega) (by omega)).1.ok⟩
theorem RC.topI_ok (C : RC W b e F v key) {i : Nat} (hi : i ≤ F.keys.length) : Fr64 (topI e F key i) ∧ OkF (topI e F key i) := by
  obtain ⟨c0, c1, S⟩ := C.S
  have hk2 := S.ok.lt C.hl
  rcases (topUp_min (e := e) (n := F.keys.length) (by have := S.e0; omega) (fun i hi => by omega) hk2 S.ok.top i hi).is with q | ⟨j, hj, q⟩
  · rw [topI, q]; exact ⟨S.ft, S.ok.top.ok⟩
  · rw [topI, q]
    have := hk2 j (by omega); have := S.big; have := C.hk.2; have := S.e0; have := S.e1
    have hm : u64ok (F.keys.getD j 0) := S.key _ (by rw [List.getD_eq_getElem?_getD, List.getElem?_eq_getElem (by omega), Option.getD_some]; exact List.getElem_mem (by omega))
    have := hm.1
    exact ⟨Fr64.low (by omega) (by omega) (by omega) (by omega), (lowest_low (by omega) (by omega)).1.ok⟩
theorem RC.far (C : RC W b e F v key) {g : Nat} (hg : W.heap.size ≤ g) : ¬ (g = b ∨ v.ownBlock = some g) := by
  rintro (rfl | h)
  · have := C.M.blk.lt; omega
  · have := own_lt C.M.row h; omega
/-- At one key: how far it is, and what is known of the two fractions. -/
theorem RC.at (C : RC W b e F v key) {i : Nat} (hi : i < F.keys.length) : u64ok F.keys[i] ∧ F.keys[i] < key ∧ F.keys.getD i 0 = F.keys[i] := by
  obtain ⟨c0, c1, S⟩ := C.S
  have h1 := S.ok.lt C.hl i hi
  have h2 : F.keys.getD i 0 = F.keys[i] := by rw [List.getD_eq_getElem?_getD, List.getElem?_eq_getElem hi, Option.getD_some]
  rw [h2] at h1
  exact ⟨S.key _ (List.getElem_mem hi), h1, h2⟩
end
theorem RC.took {W w2 w5 : World} {b : Nat} {e : Int} {F : Fit} {v v' : Value} {key : Int} (C : RC W b e F v key) (B2 : Below W.heap.size W w2) (H5 : RA w2 b e F v v' key w5) (hlt : ¬ ltF (topI e F key F.keys.length) (lowI e F key F.keys.length)) :
    RefAddO W b e F (fun k => k = b ∨ v.ownBlock = some k) key ((((w5.setCell ⟨b, 2, none⟩ (.int .u64 (lowI e F key F.keys.length).1)).setCell ⟨b, 3, none⟩ (.int .u64 (lowI e F key F.keys.length).2)).setCell ⟨b, 4, none⟩ (.int .u64 (topI e F key F.keys.length).1)).setCell ⟨b, 5, none⟩ (.int .u64 (topI e F key F.keys.length).2)) := by
  have EA : F.add e key = ((true, 0), ⟨F.keys ++ [key], F.lowWith e key, F.topWith e key⟩) := Fit.add_take C.hl hlt
  obtain ⟨c0, c1, S⟩ := C.S
  have hok := S.ok.add (by have := S.e0; omega) key (e := e)
  rw [EA] at hok
  have T := S.taken C.hk C.hl C.big hok hlt
  have hbl := C.M.blk.lt
  have nb : v'.ownBlock ≠ some b := by
    intro hq
    rcases H5.own b hq with k | k
    · exact C.M.ne k
    · have := B2.size; omega
  refine ⟨fun k => k = b ∨ v'.ownBlock = some k, ?_, ?_, ?_⟩
  · rw [EA]
    exact ⟨v', ⟨(((H5.blk.set 2 _).set 3 _).set 4 _).set 5 _, own_far (own_far (own_far (own_far H5.row nb _) nb _) nb _) nb _⟩, ⟨_, _, T⟩, rfl⟩
  · have k1 : Chg (fun k => k = b ∨ v.ownBlock = some k) W w5 := ((Chg.of_below B2).mono (fun _ _ h => h.elim)).trans H5.chg (fun i _ h => h)
    exact (((k1.setCell (fun _ => .inl rfl) _).setCell (fun _ => .inl rfl) _).setCell (fun _ => .inl rfl) _).setCell (fun _ => .inl rfl) _
  · rintro k (rfl | h)
    · exact .inl (.inl rfl)
    · rcases H5.own k h with m | m
      · exact .inl (.inr m)
      · exact .inr (Nat.le_trans B2.size m)
/-- Where the loop stands. -/
def RLTo (W : World) (b : Nat) (e : Int) (F : Fit) (v : Value) (key : Int) (g8 g9 : Nat) (x : Value) (w : World) : Prop :=
  ∃ i : Nat, i ≤ F.keys.length ∧ x = .int .i64 i ∧ RL W b e F v g8 g9 (lowI e F key i) (topI e F key i) w
set_option maxHeartbeats 8000000 in
set_option maxRecDepth 100000 in
theorem ref_add_ac {W : World} {b : Nat} {e : Int} {F : Fit} {v : Value} {key : Int} (C : RC W b e F v key) :
    Calls Try.prog 69 #[.pointer (some ⟨b, 0, none⟩), .int .u64 key] W fun e' w' => e' = .returned (.tuple #[.bool (F.add e key).1.1, .int .i64 (F.add e key).1.2]) ∧ RefAddO W b e F (fun k => k = b ∨ v.ownBlock = some k) key w' := by
  have HC := Lib.hid C
  have he0 : 1 ≤ e := by obtain ⟨_, _, S⟩ := C.S; exact S.e0
  have he1 : e ≤ 63 := by obtain ⟨_, _, S⟩ := C.S; exact S.e1
  have hbig := C.big
  obtain ⟨A, c, hv, hA⟩ := C.M.form
  subst hv
  have HA := Lib.hid hA
  have x1 : W.cell? ⟨b, 1, none⟩ = some (.slice A F.keys.length c) := C.M.blk.cell 1
  have x0 : W.cell? ⟨b, 0, none⟩ = some (.int .i64 (e + 1)) := C.M.blk.cell 0
  have x2 : W.cell? ⟨b, 2, none⟩ = some (.int .u64 F.low.1) := C.M.blk.cell 2
  have x3 : W.cell? ⟨b, 3, none⟩ = some (.int .u64 F.low.2) := C.M.blk.cell 3
  have y4 : (W.alloc (.cells #[.int .u64 F.low.1, .int .u64 F.low.2] 122)).cell? ⟨b, 4, none⟩ = some (.int .u64 F.top.1) := (C.M.blk.alloc _).cell 4
  have y5 : (W.alloc (.cells #[.int .u64 F.low.1, .int .u64 F.low.2] 122)).cell? ⟨b, 5, none⟩ = some (.int .u64 F.top.2) := (C.M.blk.alloc _).cell 5
  have a0 : IntKind.i64.wrap (e + 1 - 1) = e := by rw [show e + 1 - 1 = e from by omega]; exact IntWalk.i64_in _ (by omega)
  have START : Hid (RL W b e F (.slice A F.keys.length c) W.heap.size (W.heap.size + 1) (lowI e F key 0) (topI e F key 0) ((W.alloc (.cells #[.int .u64 F.low.1, .int .u64 F.low.2] 122)).alloc (.cells #[.int .u64 F.top.1, .int .u64 F.top.2] 122))) :=
    Lib.hid ⟨(C.M.below (below_new (Below.refl _ _) _)).below (below_new (Below.refl _ _) _), (Blk.new _ _ _).alloc _, Blk.new' _ _ (by simp), below_new (below_new (Below.refl _ _) _) _⟩
  have LE := F.late_eq key
  rw [C.hl] at LE
  have hcase : ¬ 0 < F.keys.length ∨ (0 < F.keys.length ∧ decide (key ≤ F.lst) = false) := by
    by_cases hd : 0 < F.keys.length
    · have : decide (0 < (F.keys.length : Int)) = true := by simpa using hd
      rw [this, Bool.true_and] at LE; exact .inr ⟨hd, LE.symm⟩
    · exact .inl hd
  have hLs : ∀ (h : 0 < F.keys.length), F.keys[F.keys.length - 1]'(by omega) = F.lst := by
    intro h
    unfold Fit.lst
    rw [List.getLast?_eq_getElem?, List.getElem?_eq_getElem (by omega), Option.getD_some]
  have HLs := Lib.hid hLs
  clear C hA LE hLs
  go_enter Try.func69, Try.ntmps69
  go_upto_region 2 with fail
  go_cut [32] (fun s32 wx => s32 = .bool false ∧ W = wx)
  case first =>
    rcases hcase with h1 | ⟨h1, h2⟩
    · go_wp2_with fail
      go_meet
      case rel => exact ⟨rfl, rfl⟩
    · obtain ⟨g, rfl, hg⟩ := HA.out h1
      have z2 := hg (F.keys.length - 1) (by omega)
      rw [HLs.out h1] at z2
      have e0 : (0 : Int) ≤ (F.keys.length : Int) - 1 := by omega
      have e1 : (F.keys.length : Int) - 1 < (F.keys.length : Int) := by omega
      have e2 : ((F.keys.length : Int) - 1).toNat = F.keys.length - 1 := by omega
      have e3 : IntKind.i64.wrap ((F.keys.length : Int) - 1) = (F.keys.length : Int) - 1 := IntWalk.i64_in _ (by omega)
      clear hg
      go_wp2_with fail
      go_meet
      case rel => exact ⟨rfl, rfl⟩
  case rest =>
    obtain ⟨rfl, rfl⟩ := hcut
    clear hcase
    go_wp2_with fail
    clear x0 x1 x2 x3 y4 y5 a0
    go_loopw [10] (fun x wr => RLTo W b e F (.slice A F.keys.length c) key W.heap.size (W.heap.size + 1) x wr) (fun x _ => F.keys.length - (intOf x).toNat)
    case atStart => exact ⟨0, by omega, rfl, START.out⟩
    case round =>
      obtain ⟨i, hi, rfl, R⟩ := hrel
      have HR := Lib.hid R
      have x1 : wr.cell? ⟨b, 1, none⟩ = some (.slice A F.keys.length c) := R.m.blk.cell 1
      clear R
      by_cases hlt : i < F.keys.length
      · obtain ⟨g, rfl, hg⟩ := HA.out (by omega)
        obtain ⟨ku, kl, kd⟩ := HC.out.at hlt
        have z2 := HR.out.m.cellAt hlt
        obtain ⟨k, hkk⟩ : ∃ k, F.keys[i] = k := ⟨_, rfl⟩
        rw [hkk] at ku kl kd z2
        have hk9 := HC.out.hk
        unfold u64ok at ku hk9
        have b1 : IntKind.u64.wrap (key - k) = key - k := by rw [IntKind.wrap_u64]; omega
        have HKD := Lib.hid kd
        clear hg hkk kd
        have LO := HC.out.lowI_ok (show i ≤ F.keys.length by omega)
        have TO := HC.out.topI_ok (show i ≤ F.keys.length by omega)
        have SL : Hid (lowI e F key (i + 1) = if 0 < (F.keys.length : Int) - i - 2 * e then (if ltF (lowI e F key i) (lowest ((F.keys.length : Int) - i - 2 * e) (key - k)) then lowest ((F.keys.length : Int) - i - 2 * e) (key - k) else lowI e F key i) else lowI e F key i) := Lib.hid (by
          show stepLow e F.keys.length key F.keys (lowI e F key i) i = _
          rw [stepLow, HKD.out])
        have ST : Hid (topI e F key (i + 1) = if ltF (lowest ((F.keys.length : Int) - i + 2 * e) (key - k)) (topI e F key i) then lowest ((F.keys.length : Int) - i + 2 * e) (key - k) else topI e F key i) := Lib.hid (by
          show stepTop e F.keys.length key F.keys (topI e F key i) i = _
          rw [stepTop, HKD.out])
        have HLO := Lib.hid LO
        have HTO := Lib.hid TO
        have HHI := Lib.hid hi
        generalize hli : lowI e F key i = li at *
        generalize hti : topI e F key i = ti at *
        have Hli := Lib.hid hli
        have Hti := Lib.hid hti
        clear LO TO hli hti
        go_upto_if 66 with fail
        go_cut [12] (fun x12 wx => Hid (RL W b e F (.slice (some ⟨g, 0, none⟩) F.keys.length c) W.heap.size (W.heap.size + 1) (lowI e F key (i + 1)) ti wx))
        case first =>
          by_cases hp : 0 < (F.keys.length : Int) - i - 2 * e
          · have hpd : decide (0 < (F.keys.length : Int) - i - 2 * e) = true := by simpa using hp
            have q1 : IntKind.u64.wrap ((F.keys.length : Int) - i - 2 * e) = (F.keys.length : Int) - i - 2 * e := by rw [IntKind.wrap_u64]; omega
            have LW := ref_lowest ((F.keys.length : Int) - i - 2 * e) (key - k) (by unfold u64ok; omega) (by unfold u64ok; omega) (by omega) wr
            have LL := lowest_low (n := (F.keys.length : Int) - i - 2 * e) (d := key - k) (by omega) (by omega)
            have LF := Fr64.low (n := (F.keys.length : Int) - i - 2 * e) (d := key - k) (by omega) (by omega) (by omega) (by omega)
            have SL1 := SL.out
            rw [if_pos hp] at SL1
            obtain ⟨s, hs⟩ : ∃ s, lowest ((F.keys.length : Int) - i - 2 * e) (key - k) = s := ⟨_, rfl⟩
            rw [hs] at LW LL LF SL1
            have BE := fun w => ref_Below li s HLO.out.1.u1 HLO.out.1.u2 LF.u1 LF.u2 HLO.out.2 LL.1.ok w
            have HSL := Lib.hid SL1
            clear LL LF SL1 hs
            go_wp2_with fail
            refine LW.mono ?_
            rintro e1 w1 ⟨rfl, hb1⟩
            have R1 := Lib.hid ((HR.out.below hb1).alloc (.cells #[.int .u64 s.1, .int .u64 s.2] 122))
            have B12 : Hid (Blk (w1.alloc (.cells #[.int .u64 s.1, .int .u64 s.2] 122)) w1.heap.size 122 #[.int .u64 s.1, .int .u64 s.2]) := Lib.hid (Blk.new _ _ _)
            obtain ⟨r0, r1, _, _⟩ := R1.out.l.cells2
            clear LW hb1 x1 z2
            go_wp2_with fail
            refine (BE _).mono ?_
            rintro e2 w2 ⟨rfl, hb2⟩
            have R2 := Lib.hid (R1.out.below hb2)
            have B2 := B12.out.below hb2
            clear r0 r1 BE R1
            by_cases hlt2 : ltF li s
            · rw [decide_eq_true hlt2]
              have E2 : Hid (s = lowI e F key (i + 1)) := Lib.hid (by rw [HSL.out, if_pos hlt2])
              obtain ⟨r0, r1, r2, r3⟩ := R2.out.l.cells2
              obtain ⟨r4, r5, _, _⟩ := B2.cells2
              clear hlt2 B2 hb2
              go_wp2_with fail
              go_meet
              case rel => rw [← E2.out]; exact Lib.hid (R2.out.setL HC.out.M (Nat.le_refl _) (by omega) _)
            · rw [decide_eq_false hlt2]
              have E2 : Hid (li = lowI e F key (i + 1)) := Lib.hid (by rw [HSL.out, if_neg hlt2])
              clear hlt2 B2 hb2
              go_wp2_with fail
              go_meet
              case rel => rw [← E2.out]; exact R2
          · have hpd : decide (0 < (F.keys.length : Int) - i - 2 * e) = false := by simpa using hp
            have E2 : Hid (li = lowI e F key (i + 1)) := Lib.hid (by rw [SL.out, if_neg hp])
            go_wp2_with fail
            go_meet
            case rel => rw [← E2.out]; exact HR
        case rest =>
          have q1 : IntKind.u64.wrap ((F.keys.length : Int) - i + 2 * e) = (F.keys.length : Int) - i + 2 * e := by rw [IntKind.wrap_u64]; omega
          have LW := ref_lowest ((F.keys.length : Int) - i + 2 * e) (key - k) (by unfold u64ok; omega) (by unfold u64ok; omega) (by omega) wc
          have LL := lowest_low (n := (F.keys.length : Int) - i + 2 * e) (d := key - k) (by omega) (by omega)
          have LF := Fr64.low (n := (F.keys.length : Int) - i + 2 * e) (d := key - k) (by omega) (by omega) (by omega) (by omega)
          have ST1 := ST.out
          obtain ⟨s, hs⟩ : ∃ s, lowest ((F.keys.length : Int) - i + 2 * e) (key - k) = s := ⟨_, rfl⟩
          rw [hs] at LW LL LF ST1
          have BE := fun w => ref_Below s ti LF.u1 LF.u2 HTO.out.1.u1 HTO.out.1.u2 LL.1.ok HTO.out.2 w
          have HST := Lib.hid ST1
          clear LL LF ST1 hs
          go_wp2_with fail
          refine LW.mono ?_
          rintro e1 w1 ⟨rfl, hb1⟩
          have R1 := Lib.hid ((hcut.out.below hb1).alloc (.cells #[.int .u64 s.1, .int .u64 s.2] 122))
          have B12 : Hid (Blk (w1.alloc (.cells #[.int .u64 s.1, .int .u64 s.2] 122)) w1.heap.size 122 #[.int .u64 s.1, .int .u64 s.2]) := Lib.hid (Blk.new _ _ _)
          obtain ⟨r0, r1, _, _⟩ := R1.out.t.cells2
          clear LW hb1 x1 z2
          go_wp2_with fail
          refine (BE _).mono ?_
          rintro e2 w2 ⟨rfl, hb2⟩
          have R2 := Lib.hid (R1.out.below hb2)
          have B2 := B12.out.below hb2
          clear r0 r1 BE R1
          by_cases hlt2 : ltF s ti
          · rw [decide_eq_true hlt2]
            have E2 : Hid (s = topI e F key (i + 1)) := Lib.hid (by rw [HST.out, if_pos hlt2])
            obtain ⟨r0, r1, r2, r3⟩ := R2.out.t.cells2
            obtain ⟨r4, r5, _, _⟩ := B2.cells2
            clear hlt2 B2 hb2
            go_wp2_with fail
            go_roundw
            case rel => exact ⟨i + 1, by omega, by go_num, by rw [← E2.out]; exact R2.out.setT HC.out.M (by omega) (by omega) _⟩
            case measure => simp [intOf]; omega
          · rw [decide_eq_false hlt2]
            have E2 : Hid (ti = topI e F key (i + 1)) := Lib.hid (by rw [HST.out, if_neg hlt2])
            clear hlt2 B2 hb2
            go_wp2_with fail
            go_roundw
            case rel => exact ⟨i + 1, by omega, by go_num, by rw [← E2.out]; exact R2.out⟩
            case measure => simp [intOf]; omega
      · obtain rfl : i = F.keys.length := by omega
        have LO := HC.out.lowI_ok (Nat.le_refl _)
        have TO := HC.out.topI_ok (Nat.le_refl _)
        have BE := fun w => ref_Below _ _ TO.1.u1 TO.1.u2 LO.1.u1 LO.1.u2 TO.2 LO.2 w
        obtain ⟨r0, r1, _, _⟩ := HR.out.l.cells2
        obtain ⟨r2, r3, _, _⟩ := HR.out.t.cells2
        clear LO TO
        go_wp2_with fail
        refine (BE _).mono ?_
        rintro e2 w2 ⟨rfl, hb2⟩
        have R2 := Lib.hid (HR.out.below hb2)
        clear r0 r1 r2 r3 BE x1
        by_cases hlt2 : ltF (topI e F key F.keys.length) (lowI e F key F.keys.length)
        · rw [decide_eq_true hlt2]
          have EA : Hid (F.add e key = ((false, 0), F)) := Lib.hid (Fit.add_refuse HC.out.hl hlt2)
          clear hlt2 hb2
          go_wp2_with fail
          go_ret2
          exact ⟨by rw [EA.out]; rfl, by rw [RefAddO, EA.out]; exact ⟨_, ⟨_, R2.out.m, HC.out.S, rfl⟩, (Chg.of_below R2.out.bel).mono (fun _ _ h => h.elim), fun k hk => .inl hk⟩⟩
        · rw [decide_eq_false hlt2]
          have EA : Hid (F.add e key = ((true, 0), ⟨F.keys ++ [key], F.lowWith e key, F.topWith e key⟩)) := Lib.hid (Fit.add_take HC.out.hl hlt2)
          have HN2 := Lib.hid hlt2
          clear hlt2 hb2
          go_upto_region 20 with fail
          refine ref_append hbig R2.out.m _ _ _ _ _ _ _ _ _ _ _ _ _ _ _ _ _ _ _ _ _ _ _ _ _ _ _ _ _ _ _ _ _ _ _ _ _ _ _ _ _ _ _ _ _ _ _ _ _ _ _ _ _ _ _ _ _ _ _ _ _ _ _ _ _ _ _ _ _ _ _ _ _ _ _ _ _ _ _ _ _ _ _ _ _ _ _ _ _ _ _ _ _ _ _ _ _ _ _ _ _ _ _ _ _ _ _ _ _ _ _ _ ?_
          intro v' x96 x97 x98 x99 x100 x101 x102 x103 x104 x105 w5 H5
          have HA5 := Lib.hid H5
          have g8 : Hid (Blk w5 W.heap.size 122 #[.int .u64 (lowI e F key F.keys.length).1, .int .u64 (lowI e F key F.keys.length).2]) := Lib.hid (R2.out.l.chg H5.chg (RC.far HC.out (Nat.le_refl _)))
          have g9 : Hid (Blk w5 (W.heap.size + 1) 122 #[.int .u64 (topI e F key F.keys.length).1, .int .u64 (topI e F key F.keys.length).2]) := Lib.hid (R2.out.t.chg H5.chg (RC.far HC.out (by omega)))
          have c2 : w5.cell? ⟨b, 2, none⟩ = some (.int .u64 F.low.1) := H5.blk.cell 2
          have c3 : w5.cell? ⟨b, 3, none⟩ = some (.int .u64 F.low.2) := H5.blk.cell 3
          have d2 : w5.frozen? ⟨b, 2, none⟩ = false := H5.blk.free 2
          have d3 : w5.frozen? ⟨b, 3, none⟩ = false := H5.blk.free 3
          obtain ⟨r0, r1, _, _⟩ := g8.out.cells2
          have hnb : Hid (W.heap.size + 1 ≠ b) := Lib.hid (by have := HC.out.M.blk.lt; omega)
          have c4 : ((w5.setCell ⟨b, 2, none⟩ (.int .u64 (lowI e F key F.keys.length).1)).setCell ⟨b, 3, none⟩ (.int .u64 (lowI e F key F.keys.length).2)).cell? ⟨b, 4, none⟩ = some (.int .u64 F.top.1) := ((H5.blk.set 2 _).set 3 _).cell 4
          have c5 : ((w5.setCell ⟨b, 2, none⟩ (.int .u64 (lowI e F key F.keys.length).1)).setCell ⟨b, 3, none⟩ (.int .u64 (lowI e F key F.keys.length).2)).cell? ⟨b, 5, none⟩ = some (.int .u64 F.top.2) := ((H5.blk.set 2 _).set 3 _).cell 5
          have d4 : ((w5.setCell ⟨b, 2, none⟩ (.int .u64 (lowI e F key F.keys.length).1)).setCell ⟨b, 3, none⟩ (.int .u64 (lowI e F key F.keys.length).2)).frozen? ⟨b, 4, none⟩ = false := ((H5.blk.set 2 _).set 3 _).free 4
          have d5 : ((w5.setCell ⟨b, 2, none⟩ (.int .u64 (lowI e F key F.keys.length).1)).setCell ⟨b, 3, none⟩ (.int .u64 (lowI e F key F.keys.length).2)).frozen? ⟨b, 5, none⟩ = false := ((H5.blk.set 2 _).set 3 _).free 5
          obtain ⟨r2, r3, _, _⟩ := ((g9.out.far (a := ⟨b, 2, none⟩) (.int .u64 (lowI e F key F.keys.length).1) hnb.out).far (a := ⟨b, 3, none⟩) (.int .u64 (lowI e F key F.keys.length).2) hnb.out).cells2
          clear H5
          go_wp2_with fail
          go_ret2
          exact ⟨by rw [EA.out]; rfl, HC.out.took R2.out.bel HA5.out HN2.out⟩
/-- The reference's Add, whole. -/
theorem ref_AddO {w : World} {b : Nat} {e : Int} {F : Fit} {S : Nat → Prop} (key : Int) (hk : u64ok key) (big : F.keys.length < 17592186044416) (H : RefO w b e F S) :
    Calls Try.prog 69 #[.pointer (some ⟨b, 0, none⟩), .int .u64 key] w fun e' w' => e' = .returned (.tuple #[.bool (F.add e key).1.1, .int .i64 (F.add e key).1.2]) ∧ RefAddO w b e F S key w' := by
  obtain ⟨v, M, Q, rfl⟩ := H
  by_cases hl : F.late key = true
  · obtain ⟨_, _, S⟩ := Q
    refine (ref_add_late M hl (by have := S.e0; omega) S.e1 big).mono ?_
    rintro e' w' ⟨rfl, rfl⟩
    refine ⟨by rw [Fit.add_late hl], ?_⟩
    rw [RefAddO, Fit.add_late hl]
    exact ⟨_, ⟨v, M, ⟨_, _, S⟩, rfl⟩, Chg.refl _ _, fun k h => .inl h⟩
  · exact ref_add_ac ⟨M, Q, hk, by simpa using hl, big⟩
end Go.Proofs.Ytnccgpdniigekaa
