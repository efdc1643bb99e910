/-
  HullFits: a copy of what was taken, with a key more.
-/
import Derived.Test.YtanhhgifcolfaaaQCode
import Derived.Test.YtanhhgifcolfaaaQHuRefClone
import Derived.Test.YtanhhgifcolfaaaQG2
namespace Go.Proofs.Ytanhhgifcolfaaa
open Go.RowKit
set_option linter.unusedVariables false
set_option linter.unusedSimpArgs false

noncomputable def fiB : Code := Try.f6.body.getD .skip
/-- The keys taken, in a slice of their own. -/
def KRow (w : World) (base : Nat) (v : Value) (K : List Int) : Prop := w.ownsRow base 34 1 v K.length (K.map (Value.int .u64))
theorem KRow.val {w : World} {base : Nat} {v : Value} {K : List Int} (h : KRow w base v K) : ∃ A c, v = .slice A K.length c := by
  rcases h.2 with ⟨hv, h0⟩ | ⟨g, cap, cur, hv, hr⟩
  · exact ⟨none, 0, by rw [hv, h0]⟩
  · exact ⟨_, _, hv⟩
theorem with_val {w1 : World} {base : Nat} {v1 : Value} {K : List Int} (hown : w1.ownsRow base 34 1 v1 (0 + K.length) ([] ++ K.map (Value.int .u64))) : ∃ A c, v1 = .slice A K.length c := by
  rw [Nat.zero_add, List.nil_append] at hown
  exact KRow.val hown
/-- Behind the first append. -/
structure WA (wr : World) (K : List Int) (v : Value) (w1 : World) : Prop where
  bel : Below wr.heap.size wr w1
  row : KRow w1 wr.heap.size v K
theorem WA.mk1 {wr W w1 : World} {K : List Int} {v g : Value} (hW : Below wr.heap.size wr W) (hown : w1.ownsRow wr.heap.size 34 1 v (0 + K.length) ([] ++ K.map (Value.int .u64))) (hgr : W.grownBy w1 g.ownBlock) (hg : ∀ k, g.ownBlock = some k → wr.heap.size ≤ k) : WA wr K v w1 := by
  rw [Nat.zero_add, List.nil_append] at hown
  exact ⟨hW.grown hgr hW.size hg, hown⟩
theorem WA.mk2 {wr W w2 : World} {K : List Int} {key : Int} {v : Value} {g cap : Nat} (h : Below wr.heap.size wr W) (hv : ∀ k, v.ownBlock = some k → wr.heap.size ≤ k) (hown : w2.ownsRow wr.heap.size 34 1 (.slice (some ⟨g, 0, none⟩) (K.length + 1) cap) (K.length + 1) (K.map (Value.int .u64) ++ [.int .u64 key])) (hgr : W.grownBy w2 v.ownBlock) :
    WA wr (K ++ [key]) (.slice (some ⟨g, 0, none⟩) (K.length + 1) cap) w2 := by
  refine ⟨h.grown hgr h.size hv, ?_⟩
  unfold KRow
  rw [List.length_append, List.map_append]
  exact hown
theorem WA.cell {wr w1 : World} {K : List Int} {v x : Value} {a : Addr} (h : WA wr K v w1) (ha : wr.cell? a = some x) : w1.cell? a = some x := cell_below h.bel ha
theorem WB {wr w' : World} {a : Addr} {x : Value} (hc : Hid (wr.cell? a = some x)) (h : Below wr.heap.size wr w') : Below wr.heap.size wr w' ∧ w'.cell? a = some x := ⟨h, cell_below h hc.out⟩
theorem WA.own {wr w1 : World} {K : List Int} {v : Value} (h : WA wr K v w1) : ∀ k, v.ownBlock = some k → wr.heap.size ≤ k := fun k hk => (h.row.lt k hk).1
set_option maxHeartbeats 4000000 in
set_option maxRecDepth 100000 in
theorem fits_with {wr : World} {b o i n c c8 : Nat} {A8 : Option Addr} {K : List Int} {key : Int} (HK : Hid (KRow wr 0 (.slice A8 K.length c8) K)) (hlen : K.length ≤ 17592186044415) (hlt : i < n) (hn : n ≤ 17592186044416) (hc : wr.cell? ⟨b, o + i, none⟩ = some (.int .u64 key)) (u0 u2 u3 u4 u5 u6 u7 u10 u11 u12 u13 u14 u15 u16 u17 u18 u19 u20 u21 u22 u23 u24 u25 u26 u27 u28 u29 u30 u31 u32 u33 u34 u35 u36 u37 u38 u39 u40 u41 u42 u43 u44 u45 u46 u47 u48 u49 u50 u51 u52 u53 u54 u55 u56 u57 u58 u59 u60 u61 u62 u63 u64 u65 u66 u67 u68 u69 u70 u71 u72 u73 u74 u75 u76 u77 u78 u79 u80 u81 u82 u83 u84 u85 u86 u87 u88 u89 u90 u91 u92 u93 u94 u95 u96 u97 u98 u99 u100 u101 u102 u103 u104 u105 u106 u107 u108 u109 u110 : Value) {Q : Exit → Act → World → Prop}
    (hK : ∀ (x59 x60 x61 x62 x63 x64 x65 x66 x67 : Value) (v : Value) (wx : World), Hid (WA wr (K ++ [key]) v wx) → Q .normal ⟨#[u0, .slice (some ⟨b, o, none⟩) n c, u2, u3, u4, u5, u6, u7, .slice A8 K.length c8, .int .i64 (i : Int), u10, u11, v, u13, u14, u15, u16, u17, u18, u19, u20, u21, u22, u23, u24, u25, u26, u27, u28, u29, u30, u31, u32, u33, u34, u35, u36, u37, u38, u39, u40, u41, u42, u43, u44, u45, u46, u47, u48, u49, u50, u51, u52, u53, u54, u55, u56, u57, u58, x59, x60, x61, x62, x63, x64, x65, x66, x67, u68, u69, u70, u71, u72, u73, u74, u75, u76, u77, u78, u79, u80, u81, u82, u83, u84, u85, u86, u87, u88, u89, u90, u91, u92, u93, u94, u95, u96, u97, u98, u99, u100, u101, u102, u103, u104, u105, u106, u107, u108, u109, u110], []⟩ wx) :
    Code.wp Try.prog (regAt 13 fiB) Q ⟨#[u0, .slice (some ⟨b, o, none⟩) n c, u2, u3, u4, u5, u6, u7, .slice A8 K.length c8, .int .i64 (i : Int), u10, u11, u12, u13, u14, u15, u16, u17, u18, u19, u20, u21, u22, u23, u24, u25, u26, u27, u28, u29, u30, u31, u32, u33, u34, u35, u36, u37, u38, u39, u40, u41, u42, u43, u44, u45, u46, u47, u48, u49, u50, u51, u52, u53, u54, u55, u56, u57, u58, u59, u60, u61, u62, u63, u64, u65, u66, u67, u68, u69, u70, u71, u72, u73, u74, u75, u76, u77, u78, u79, u80, u81, u82, u83, u84, u85, u86, u87, u88, u89, u90, u91, u92, u93, u94, u95, u96, u97, u98, u99, u100, u101, u102, u103, u104, u105, u106, u107, u108, u109, u110], []⟩ wr := by
  conv => arg 2; whnf
  have HKK := Lib.hid hK
  clear hK
  obtain ⟨i0, hi, hz0, hz1, hz2⟩ := info_parts infoK
  have HC := Lib.hid hc
  have HR := Reads.of_own HK.out
  have HA1 : Hid (Below wr.heap.size wr (wr.alloc (.cells #[] 34)) ∧ (wr.alloc (.cells #[] 34)).ownsRow wr.heap.size 34 1 (.slice (some ⟨wr.heap.size, 0, none⟩) 0 0) 0 [] ∧ Reads (wr.alloc (.cells #[] 34)) wr.heap.size 1 A8 K.length (K.map (Value.int .u64))) := Lib.hid
    ⟨below_new (Below.refl _ _) _, World.ownsRow_made (e := 34) (size := 1) wr #[] 0 (Nat.le_refl _) (by unfold maxLen; omega) rfl, HR.alloc (Nat.le_refl _) _⟩
  have HA2 : Hid (Below wr.heap.size wr ((wr.alloc (.cells #[] 34)).alloc (.cells #[.int .u64 key] 34)) ∧ ((wr.alloc (.cells #[] 34)).alloc (.cells #[.int .u64 key] 34)).ownsRow wr.heap.size 34 1 (.slice (some ⟨wr.heap.size, 0, none⟩) 0 0) 0 [] ∧ Reads ((wr.alloc (.cells #[] 34)).alloc (.cells #[.int .u64 key] 34)) wr.heap.size 1 A8 K.length (K.map (Value.int .u64))) := Lib.hid
    ⟨below_new HA1.out.1 _, own_chg HA1.out.2.1 ((Chg.refl (fun _ => False) _).alloc _) (fun _ _ h => h), HA1.out.2.2.alloc (by simp) _⟩
  have HA3 : Hid (Below wr.heap.size wr ((wr.alloc (.cells #[.int .u64 key] 34)).alloc (.cells #[] 34)) ∧ ((wr.alloc (.cells #[.int .u64 key] 34)).alloc (.cells #[] 34)).ownsRow wr.heap.size 34 1 (.slice (some ⟨wr.heap.size + 1, 0, none⟩) 0 0) 0 [] ∧ Reads ((wr.alloc (.cells #[.int .u64 key] 34)).alloc (.cells #[] 34)) wr.heap.size 1 A8 K.length (K.map (Value.int .u64))) := Lib.hid
    ⟨below_new (below_new (Below.refl _ _) _) _, by have := World.ownsRow_made (e := 34) (size := 1) (base := wr.heap.size) (wr.alloc (.cells #[.int .u64 key] 34)) #[] 0 (by simp) (by unfold maxLen; omega) rfl; rw [World.size_alloc] at this; exact this, (HR.alloc (Nat.le_refl _) _).alloc (by simp) _⟩
  have HO := Lib.hid (keys_one K)
  have HFK : Hid (∀ u ∈ [Value.int .u64 key], u.oneCell' = true) := Lib.hid (by intro u hu; simp at hu; subst hu; rfl)
  have H63 : Hid (0 + K.length ≤ maxLen) := Lib.hid (by unfold maxLen; omega)
  have HBY : Hid ((0 + K.length) * 8 ≤ 140737488355328) := Lib.hid (by omega)
  have H64 : Hid (K.length + 1 ≤ maxLen) := Lib.hid (by unfold maxLen; omega)
  have HB8 : Hid ((K.length + 1) * 8 ≤ 140737488355328) := Lib.hid (by omega)
  have hi0 : (0 : Int) ≤ (i : Int) := by omega
  have hi1 : (i : Int) < (n : Int) := by omega
  clear HR hc
  go_region_held3 (fun w' => Below wr.heap.size wr w' ∧ w'.cell? ⟨b, o + i, none⟩ = some (.int .u64 key))
    (first | exact ⟨(Below.refl _ _).drew, HC.out⟩ | exact WB HC KH.out.bel | exact WB HC KG.out.bel | exact WB HC HA1.out.1.drew | exact WB HC HA2.out.1.drew | exact WB HC HA3.out.1.drew | exact WB HC (below_new (Below.refl _ wr) (.cells #[.int .u64 key] 34)).drew | exact WB HC (below_new KG.out.bel (.cells #[.int .u64 key] 34)) | exact WB HC (below_new KG.out.bel (.cells #[.int .u64 key] 34)).drew | exact WB HC KG.out.bel.drew | go_keep)
    (first | (refine step_append_any _ (by rfl) (.tmp 59) (.tmp 60) 22 (by rfl) wr.heap.size 34 i0 _ 1 8 Try.underlying22 hi hz0 hz1 hz2 rfl (Nat.succ_pos 0) (.slice (some ⟨wr.heap.size, 0, none⟩) 0 0) 0 [] (by simp [Act.eval, Act.put]) HA1.out.2.1 wr.heap.size A8 K.length c8 (K.map (Value.int .u64)) (by simp [Act.eval, Act.put]) HA1.out.2.2 HO.out H63.out HBY.out HA1.out.1.size ?_; intro v1 w1 hown hgr hat; obtain ⟨A1, c1, hv1⟩ := with_val hown; subst hv1; have KG := Lib.hid (WA.mk1 HA1.out.1.drew hown hgr (fun k hk => by simp [Value.ownBlock] at hk; omega));  clear hown hgr hat) | (refine step_append_any _ (by rfl) (.tmp 59) (.tmp 60) 22 (by rfl) wr.heap.size 34 i0 _ 1 8 Try.underlying22 hi hz0 hz1 hz2 rfl (Nat.succ_pos 0) (.slice (some ⟨wr.heap.size, 0, none⟩) 0 0) 0 [] (by simp [Act.eval, Act.put]) HA2.out.2.1 wr.heap.size A8 K.length c8 (K.map (Value.int .u64)) (by simp [Act.eval, Act.put]) HA2.out.2.2 HO.out H63.out HBY.out HA2.out.1.size ?_; intro v1 w1 hown hgr hat; obtain ⟨A1, c1, hv1⟩ := with_val hown; subst hv1; have KG := Lib.hid (WA.mk1 HA2.out.1.drew hown hgr (fun k hk => by simp [Value.ownBlock] at hk; omega)); have KN := Lib.hid (Blk.chg (Blk.new' (w := wr.alloc (.cells #[] 34)) (g := wr.heap.size + 1) 34 #[.int .u64 key] (by simp)).drew ((Chg.refl _ _).grown hgr (fun k hk _ => hk)) (by simp [Value.ownBlock])); clear hown hgr hat) | (refine step_append_any _ (by rfl) (.tmp 59) (.tmp 60) 22 (by rfl) wr.heap.size 34 i0 _ 1 8 Try.underlying22 hi hz0 hz1 hz2 rfl (Nat.succ_pos 0) (.slice (some ⟨wr.heap.size + 1, 0, none⟩) 0 0) 0 [] (by simp [Act.eval, Act.put]) HA3.out.2.1 wr.heap.size A8 K.length c8 (K.map (Value.int .u64)) (by simp [Act.eval, Act.put]) HA3.out.2.2 HO.out H63.out HBY.out HA3.out.1.size ?_; intro v1 w1 hown hgr hat; obtain ⟨A1, c1, hv1⟩ := with_val hown; subst hv1; have KG := Lib.hid (WA.mk1 HA3.out.1.drew hown hgr (fun k hk => by simp [Value.ownBlock] at hk; omega)); have KN := Lib.hid (Blk.chg ((Blk.new wr 34 #[.int .u64 key]).alloc (.cells #[] 34)).drew ((Chg.refl _ _).grown hgr (fun k hk _ => hk)) (by simp [Value.ownBlock])); clear hown hgr hat) | (refine step_append_lies _ (by rfl) (.tmp 61) (.tmp 66) 22 (by rfl) wr.heap.size 34 i0 _ 1 8 Try.underlying22 hi hz0 hz1 hz2 rfl (Nat.succ_pos 0) (.slice A1 K.length c1) K.length (K.map (Value.int .u64)) (by simp [Act.eval, Act.put]) (own_chg KG.out.row ((Chg.refl (fun _ => False) w1).alloc (.cells #[.int .u64 key] 34)) (fun _ _ h => h)) ⟨w1.heap.size, 0, none⟩ 1 1 [.int .u64 key] (by simp [Act.eval, Act.put]) rfl (World.news_of_block (Blk.new w1 34 #[.int .u64 key])) HFK.out (by omega) H64.out HB8.out ((below_new KG.out.bel (.cells #[.int .u64 key] 34))).size (w1.heap.size + 1) (by simp) ?_; intro gn capn w2 hown hgr hat hltn; have KH := Lib.hid (WA.mk2 (below_new KG.out.bel (.cells #[.int .u64 key] 34)) KG.out.own hown hgr); clear hown hgr hat hltn) | (refine step_append_lies _ (by rfl) (.tmp 61) (.tmp 66) 22 (by rfl) wr.heap.size 34 i0 _ 1 8 Try.underlying22 hi hz0 hz1 hz2 rfl (Nat.succ_pos 0) (.slice A1 K.length c1) K.length (K.map (Value.int .u64)) (by simp [Act.eval, Act.put]) KG.out.row ⟨wr.heap.size + 1, 0, none⟩ 1 1 [.int .u64 key] (by simp [Act.eval, Act.put]) rfl (World.news_of_block KN.out) HFK.out (by omega) H64.out HB8.out (KG.out.bel).size (w1.heap.size) rfl ?_; intro gn capn w2 hown hgr hat hltn; have KH := Lib.hid (WA.mk2 KG.out.bel KG.out.own hown hgr); clear hown hgr hat hltn) | (refine step_append_lies _ (by rfl) (.tmp 61) (.tmp 66) 22 (by rfl) wr.heap.size 34 i0 _ 1 8 Try.underlying22 hi hz0 hz1 hz2 rfl (Nat.succ_pos 0) (.slice A1 K.length c1) K.length (K.map (Value.int .u64)) (by simp [Act.eval, Act.put]) KG.out.row ⟨wr.heap.size, 0, none⟩ 1 1 [.int .u64 key] (by simp [Act.eval, Act.put]) rfl (World.news_of_block KN.out) HFK.out (by omega) H64.out HB8.out (KG.out.bel).size (w1.heap.size) rfl ?_; intro gn capn w2 hown hgr hat hltn; have KH := Lib.hid (WA.mk2 KG.out.bel KG.out.own hown hgr); clear hown hgr hat hltn))
  all_goals exact HKK.out _ _ _ _ _ _ _ _ _ _ _ KH
end Go.Proofs.Ytanhhgifcolfaaa
