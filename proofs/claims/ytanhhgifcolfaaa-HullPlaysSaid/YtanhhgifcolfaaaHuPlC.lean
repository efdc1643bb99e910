/-
  HullPlays: the switch of a round: a clone.
-/
import Derived.Test.YtanhhgifcolfaaaHuPlB
namespace Go.Proofs.Ytanhhgifcolfaaa
open Go.RowKit
set_option linter.unusedVariables false
set_option linter.unusedSimpArgs false

set_option maxHeartbeats 4000000 in
set_option maxRecDepth 100000 in
theorem plays_clone {w wr : World} {l : List Two} {S : Nat → Nat → Prop} {g6 c6 go gp m : Nat} {st : Int × Int × Int × Int} {x : Two} (H : Hid (PL w l S g6 c6 go gp m st x wr)) (h4 : l.length < 4) (hkd : st.1 = 3) (u0 u1 u2 u3 u4 u5 u7 u8 u9 u10 u11 u12 u13 u17 u18 u19 u20 u21 u22 u23 u24 u25 u26 u27 u28 u29 u30 u31 u32 u33 u34 u35 u36 u37 u38 u39 u40 u41 u42 u43 u44 u45 u46 u47 u48 u49 u50 u51 u52 u53 u54 u55 u56 u57 u58 u59 u60 u61 u62 u63 u64 u65 u66 u67 u68 u69 u70 u71 u72 u73 u74 u75 u76 u78 u79 u80 u81 u82 u83 u84 u85 u86 u87 u88 u89 u90 u91 u92 u93 u94 u95 u96 u97 u98 u99 u100 u101 u102 u103 u104 u105 u106 u107 u108 u109 u110 u111 u112 u113 u114 u115 u116 u117 u118 u119 u120 u121 u122 u123 u124 u125 u126 u127 u128 u129 u130 u131 u132 u133 u134 u135 u136 u137 u138 u139 u140 u141 u142 u143 u144 u145 u146 u147 u148 u149 u150 u151 u152 u153 u154 u155 u156 u157 u158 u159 u160 u161 : Value) {K : Act → World → Prop} {Q : Exit → Act → World → Prop}
    (hK : ∀ (x4 x17 x18 x19 x20 x21 x22 x23 x24 x25 x78 x79 x80 x81 x82 x83 x84 x85 x86 x87 x88 x89 x90 x91 x92 x93 x94 x95 x96 x97 x98 x99 x100 x101 x102 x103 x104 x105 x106 x107 x108 x109 x110 x111 x112 x113 x114 x115 x116 x117 x118 x119 x120 x121 x122 x123 x124 x125 x126 x127 x128 x129 x130 x131 x132 x133 x134 x135 x136 x137 x138 x139 x140 x141 x142 x143 x144 x145 x146 x147 x148 : Value) (g6' c6' n' : Nat) (wx : World), Hid (PEnd w g6' c6' n' wx) → K ⟨#[u0, u1, u2, u3, x4, u5, .slice (some ⟨g6', 0, none⟩) n' c6', u7, u8, u9, u10, u11, u12, u13, .pointer (some ⟨go, 0, none⟩), .int .i64 (m : Int), .pointer (some ⟨gp, 0, none⟩), x17, x18, x19, x20, x21, x22, x23, x24, x25, u26, u27, u28, u29, u30, u31, u32, u33, u34, u35, u36, u37, u38, u39, u40, u41, u42, u43, u44, u45, u46, u47, u48, u49, u50, u51, u52, u53, u54, u55, u56, u57, u58, u59, u60, u61, u62, u63, u64, u65, u66, u67, u68, u69, u70, u71, u72, u73, u74, u75, u76, .int .i64 st.1, x78, x79, x80, x81, x82, x83, x84, x85, x86, x87, x88, x89, x90, x91, x92, x93, x94, x95, x96, x97, x98, x99, x100, x101, x102, x103, x104, x105, x106, x107, x108, x109, x110, x111, x112, x113, x114, x115, x116, x117, x118, x119, x120, x121, x122, x123, x124, x125, x126, x127, x128, x129, x130, x131, x132, x133, x134, x135, x136, x137, x138, x139, x140, x141, x142, x143, x144, x145, x146, x147, x148, u149, u150, u151, u152, u153, u154, u155, u156, u157, u158, u159, u160, u161], []⟩ wx) :
    Code.wp Try.prog plSwitch (Exit.then K Q) ⟨#[u0, u1, u2, u3, u4, u5, .slice (some ⟨g6, 0, none⟩) l.length c6, u7, u8, u9, u10, u11, u12, u13, .pointer (some ⟨go, 0, none⟩), .int .i64 (m : Int), .pointer (some ⟨gp, 0, none⟩), u17, u18, u19, u20, u21, u22, u23, u24, u25, u26, u27, u28, u29, u30, u31, u32, u33, u34, u35, u36, u37, u38, u39, u40, u41, u42, u43, u44, u45, u46, u47, u48, u49, u50, u51, u52, u53, u54, u55, u56, u57, u58, u59, u60, u61, u62, u63, u64, u65, u66, u67, u68, u69, u70, u71, u72, u73, u74, u75, u76, .int .i64 st.1, u78, u79, u80, u81, u82, u83, u84, u85, u86, u87, u88, u89, u90, u91, u92, u93, u94, u95, u96, u97, u98, u99, u100, u101, u102, u103, u104, u105, u106, u107, u108, u109, u110, u111, u112, u113, u114, u115, u116, u117, u118, u119, u120, u121, u122, u123, u124, u125, u126, u127, u128, u129, u130, u131, u132, u133, u134, u135, u136, u137, u138, u139, u140, u141, u142, u143, u144, u145, u146, u147, u148, u149, u150, u151, u152, u153, u154, u155, u156, u157, u158, u159, u160, u161], []⟩ wr := by
  conv => arg 2; whnf
  have HKK := Lib.hid hK
  clear hK
  have hg1 : (st.1 == 1) = false := by rw [hkd]; rfl
  have hg2 : (st.1 == 2) = false := by rw [hkd]; rfl
  have hg3 : (st.1 == 3) = true := by rw [hkd]; rfl
  clear hkd
  have hat := H.out.at_
  obtain ⟨S1, T1, h1, h2, h3, hS⟩ := H.out.fam.ent m x hat
  have C1 := hull_Clone h1
  have C2 := fun (w' : World) (k : Below wr.heap.size wr w') => ref_Clone (h2.below k)
  have hm := H.out.m
  have x0 : wr.cell? ⟨gp, 0, none⟩ = some (.pointer (some ⟨x.b1, 0, none⟩)) := H.out.par.cell 0
  have HC2 := Lib.hid C2
  clear h1 h2 h3 hS hat C2
  go_wp2_with fail
  refine C1.mono ?_
  rintro e w1 ⟨rfl, hf1, k1⟩
  have HF1 := Lib.hid (And.intro hf1 k1)
  have C2 := HC2.out w1 k1
  have y1 : w1.cell? ⟨gp, 1, none⟩ = some (.pointer (some ⟨x.b2, 0, none⟩)) := (H.out.par.below k1).cell 1
  clear C1 HC2 x0 hf1 k1
  go_wp2_with fail
  refine C2.mono ?_
  rintro e w2 ⟨b2, rfl, hf2, k2⟩
  obtain ⟨S1, f1, n1⟩ := HF1.out.1
  obtain ⟨S2, f2, n2⟩ := hf2
  obtain ⟨SZ, PZ, nZ, kZ⟩ := clones_pair f1 n1 HF1.out.2 f2 n2 k2
  have HF := Lib.hid (H.out.fam.below (below_new kZ (.cells #[.pointer (some ⟨wr.heap.size, 0, none⟩), .pointer (some ⟨b2, 0, none⟩)] 27)))
  have HZ : Hid (PairS (w2.alloc (.cells #[.pointer (some ⟨wr.heap.size, 0, none⟩), .pointer (some ⟨b2, 0, none⟩)] 27)) ⟨wr.heap.size, b2, x.e, x.F⟩ SZ ∧ (∀ k, SZ k → wr.heap.size ≤ k) ∧ Below wr.heap.size wr w2 ∧ ∀ k, SZ k → k < w2.heap.size) := Lib.hid ⟨PZ.below (below_new (Below.refl _ _) _), nZ, kZ, PZ.lt⟩
  have BX := Lib.hid (Blk.new w2 27 #[.pointer (some ⟨wr.heap.size, 0, none⟩), .pointer (some ⟨b2, 0, none⟩)])
  have HG : Hid (PL w l S g6 c6 go gp m st x wr ∧ (∀ j : Nat, j < l.length → ∀ k, S j k → k < wr.heap.size) ∧ g6 < wr.heap.size ∧ w.heap.size ≤ wr.heap.size) := Lib.hid ⟨H.out, fun j hj => (H.out.fam.ent j l[j] (List.getElem?_eq_getElem hj)).lt, own_lt H.out.fam.row rfl, H.out.fam.bel.size⟩
  have HST := Lib.hid (H.out.stp.below (below_new kZ (.cells #[.pointer (some ⟨wr.heap.size, 0, none⟩), .pointer (some ⟨b2, 0, none⟩)] 27)))
  have hzs := kZ.size
  clear PZ nZ kZ f1 n1 f2 n2 k2 C2 y1 HF1 H
  generalize wr.heap.size = bz at *
  
  have g4 : decide ((l.length : Int) < 4) = true := by simp; omega
  obtain ⟨p0, p1, _, _⟩ := BX.out.cells2
  obtain ⟨i0, hi, hz0, hz1, hz2⟩ := info_parts infoT
  have HLE := Lib.hid (show (tcells ⟨bz, b2, x.e, x.F⟩).length = 1 * 2 from rfl)
  have HFO : Hid (∀ u ∈ tcells ⟨bz, b2, x.e, x.F⟩, u.oneCell' = true) := Lib.hid (by intro u hu; simp [tcells] at hu; rcases hu with rfl | rfl <;> rfl)
  go_upto_region 37 with fail
  generalize hwz : w2.alloc (.cells #[.pointer (some ⟨bz, 0, none⟩), .pointer (some ⟨b2, 0, none⟩)] 27) = wz at *
  have HO1 : Hid ((wz.alloc (.cells #[.pointer (some ⟨bz, 0, none⟩), .pointer (some ⟨b2, 0, none⟩)] 27)).ownsRow 0 27 2 (.slice (some ⟨g6, 0, none⟩) l.length c6) l.length (tflat l)) := Lib.hid (own_chg HF.out.row ((Chg.refl (fun _ => False) wz).alloc _) (fun _ _ h => h))
  clear hwz
  go_wp2_with (at_builtin; go_loud (refine wpList_append_lies _ rfl (.tmp 139) (.tmp 141) 45 (by rfl) 0 27 i0 _ 2 16 Try.underlying45 hi hz0 hz1 hz2 rfl (by omega) (.slice (some ⟨g6, 0, none⟩) l.length c6) l.length (tflat l) (by rfl) HO1.out ⟨wz.heap.size, 0, none⟩ 1 1 (tcells ⟨bz, b2, x.e, x.F⟩) (by rfl) HLE.out (World.news_of_block (Blk.new wz 27 #[.pointer (some ⟨bz, 0, none⟩), .pointer (some ⟨b2, 0, none⟩)])) HFO.out (by omega) (by unfold maxLen; omega) (by omega) (Nat.zero_le _) (wz.heap.size + 1) (by simp) ?_); intro g2 cap2 wn hown hgr hat hlt2; have HAP := Lib.hid (And.intro hown (And.intro hgr hat)); clear hown hgr hat hlt2)
  have C : Chg (fun k => (Value.slice (some ⟨g6, 0, none⟩) l.length c6).ownBlock = some k) wz wn := ((Chg.refl _ wz).alloc _).grown HAP.out.2.1 (fun k hk _ => hk)
  have FZ : Hid (PEnd w g2 cap2 (l.length + 1) wn) := Lib.hid ⟨l ++ [⟨bz, b2, x.e, x.F⟩], _, by simp, by omega, by omega, HF.out.push HZ.out.1 (fun k hk => by have := HZ.out.2.1 k hk; have := HG.out.2.2.2; omega) (fun i hi k hk hs => by have := HZ.out.2.1 k hk; have := HG.out.2.1 i hi k hs; omega) (fun g hg hk => by simp only [Value.ownBlock, Option.some.injEq] at hg; subst hg; have := HZ.out.2.1 _ hk; have := HG.out.2.2.1; omega) (by simpa using HAP.out.1) C (fun g hg => by
    simp only [Value.ownBlock, Option.some.injEq] at hg
    rcases HAP.out.2.2 with m | m
    · exact .inl (by rw [m, hg])
    · exact .inr (by omega))⟩
  clear C
  exact HKK.out _ _ _ _ _ _ _ _ _ _ _ _ _ _ _ _ _ _ _ _ _ _ _ _ _ _ _ _ _ _ _ _ _ _ _ _ _ _ _ _ _ _ _ _ _ _ _ _ _ _ _ _ _ _ _ _ _ _ _ _ _ _ _ _ _ _ _ _ _ _ _ _ _ _ _ _ _ _ _ _ _ _ _ _ _ FZ
set_option maxHeartbeats 4000000 in
set_option maxRecDepth 100000 in
theorem plays_put {w wr : World} {l : List Two} {S : Nat → Nat → Prop} {g6 c6 go gp m : Nat} {st : Int × Int × Int × Int} {x : Two} (H : Hid (PL w l S g6 c6 go gp m st x wr)) (h4 : l.length = 4) (hkd : st.1 = 3) (u0 u1 u2 u3 u4 u5 u7 u8 u9 u10 u11 u12 u13 u17 u18 u19 u20 u21 u22 u23 u24 u25 u26 u27 u28 u29 u30 u31 u32 u33 u34 u35 u36 u37 u38 u39 u40 u41 u42 u43 u44 u45 u46 u47 u48 u49 u50 u51 u52 u53 u54 u55 u56 u57 u58 u59 u60 u61 u62 u63 u64 u65 u66 u67 u68 u69 u70 u71 u72 u73 u74 u75 u76 u78 u79 u80 u81 u82 u83 u84 u85 u86 u87 u88 u89 u90 u91 u92 u93 u94 u95 u96 u97 u98 u99 u100 u101 u102 u103 u104 u105 u106 u107 u108 u109 u110 u111 u112 u113 u114 u115 u116 u117 u118 u119 u120 u121 u122 u123 u124 u125 u126 u127 u128 u129 u130 u131 u132 u133 u134 u135 u136 u137 u138 u139 u140 u141 u142 u143 u144 u145 u146 u147 u148 u149 u150 u151 u152 u153 u154 u155 u156 u157 u158 u159 u160 u161 : Value) {K : Act → World → Prop} {Q : Exit → Act → World → Prop}
    (hK : ∀ (x4 x17 x18 x19 x20 x21 x22 x23 x24 x25 x78 x79 x80 x81 x82 x83 x84 x85 x86 x87 x88 x89 x90 x91 x92 x93 x94 x95 x96 x97 x98 x99 x100 x101 x102 x103 x104 x105 x106 x107 x108 x109 x110 x111 x112 x113 x114 x115 x116 x117 x118 x119 x120 x121 x122 x123 x124 x125 x126 x127 x128 x129 x130 x131 x132 x133 x134 x135 x136 x137 x138 x139 x140 x141 x142 x143 x144 x145 x146 x147 x148 : Value) (g6' c6' n' : Nat) (wx : World), Hid (PEnd w g6' c6' n' wx) → K ⟨#[u0, u1, u2, u3, x4, u5, .slice (some ⟨g6', 0, none⟩) n' c6', u7, u8, u9, u10, u11, u12, u13, .pointer (some ⟨go, 0, none⟩), .int .i64 (m : Int), .pointer (some ⟨gp, 0, none⟩), x17, x18, x19, x20, x21, x22, x23, x24, x25, u26, u27, u28, u29, u30, u31, u32, u33, u34, u35, u36, u37, u38, u39, u40, u41, u42, u43, u44, u45, u46, u47, u48, u49, u50, u51, u52, u53, u54, u55, u56, u57, u58, u59, u60, u61, u62, u63, u64, u65, u66, u67, u68, u69, u70, u71, u72, u73, u74, u75, u76, .int .i64 st.1, x78, x79, x80, x81, x82, x83, x84, x85, x86, x87, x88, x89, x90, x91, x92, x93, x94, x95, x96, x97, x98, x99, x100, x101, x102, x103, x104, x105, x106, x107, x108, x109, x110, x111, x112, x113, x114, x115, x116, x117, x118, x119, x120, x121, x122, x123, x124, x125, x126, x127, x128, x129, x130, x131, x132, x133, x134, x135, x136, x137, x138, x139, x140, x141, x142, x143, x144, x145, x146, x147, x148, u149, u150, u151, u152, u153, u154, u155, u156, u157, u158, u159, u160, u161], []⟩ wx) :
    Code.wp Try.prog plSwitch (Exit.then K Q) ⟨#[u0, u1, u2, u3, u4, u5, .slice (some ⟨g6, 0, none⟩) l.length c6, u7, u8, u9, u10, u11, u12, u13, .pointer (some ⟨go, 0, none⟩), .int .i64 (m : Int), .pointer (some ⟨gp, 0, none⟩), u17, u18, u19, u20, u21, u22, u23, u24, u25, u26, u27, u28, u29, u30, u31, u32, u33, u34, u35, u36, u37, u38, u39, u40, u41, u42, u43, u44, u45, u46, u47, u48, u49, u50, u51, u52, u53, u54, u55, u56, u57, u58, u59, u60, u61, u62, u63, u64, u65, u66, u67, u68, u69, u70, u71, u72, u73, u74, u75, u76, .int .i64 st.1, u78, u79, u80, u81, u82, u83, u84, u85, u86, u87, u88, u89, u90, u91, u92, u93, u94, u95, u96, u97, u98, u99, u100, u101, u102, u103, u104, u105, u106, u107, u108, u109, u110, u111, u112, u113, u114, u115, u116, u117, u118, u119, u120, u121, u122, u123, u124, u125, u126, u127, u128, u129, u130, u131, u132, u133, u134, u135, u136, u137, u138, u139, u140, u141, u142, u143, u144, u145, u146, u147, u148, u149, u150, u151, u152, u153, u154, u155, u156, u157, u158, u159, u160, u161], []⟩ wr := by
  conv => arg 2; whnf
  have HKK := Lib.hid hK
  clear hK
  have hg1 : (st.1 == 1) = false := by rw [hkd]; rfl
  have hg2 : (st.1 == 2) = false := by rw [hkd]; rfl
  have hg3 : (st.1 == 3) = true := by rw [hkd]; rfl
  clear hkd
  have hat := H.out.at_
  obtain ⟨S1, T1, h1, h2, h3, hS⟩ := H.out.fam.ent m x hat
  have C1 := hull_Clone h1
  have C2 := fun (w' : World) (k : Below wr.heap.size wr w') => ref_Clone (h2.below k)
  have hm := H.out.m
  have x0 : wr.cell? ⟨gp, 0, none⟩ = some (.pointer (some ⟨x.b1, 0, none⟩)) := H.out.par.cell 0
  have HC2 := Lib.hid C2
  clear h1 h2 h3 hS hat C2
  go_wp2_with fail
  refine C1.mono ?_
  rintro e w1 ⟨rfl, hf1, k1⟩
  have HF1 := Lib.hid (And.intro hf1 k1)
  have C2 := HC2.out w1 k1
  have y1 : w1.cell? ⟨gp, 1, none⟩ = some (.pointer (some ⟨x.b2, 0, none⟩)) := (H.out.par.below k1).cell 1
  clear C1 HC2 x0 hf1 k1
  go_wp2_with fail
  refine C2.mono ?_
  rintro e w2 ⟨b2, rfl, hf2, k2⟩
  obtain ⟨S1, f1, n1⟩ := HF1.out.1
  obtain ⟨S2, f2, n2⟩ := hf2
  obtain ⟨SZ, PZ, nZ, kZ⟩ := clones_pair f1 n1 HF1.out.2 f2 n2 k2
  have HF := Lib.hid (H.out.fam.below (below_new kZ (.cells #[.pointer (some ⟨wr.heap.size, 0, none⟩), .pointer (some ⟨b2, 0, none⟩)] 27)))
  have HZ : Hid (PairS (w2.alloc (.cells #[.pointer (some ⟨wr.heap.size, 0, none⟩), .pointer (some ⟨b2, 0, none⟩)] 27)) ⟨wr.heap.size, b2, x.e, x.F⟩ SZ ∧ (∀ k, SZ k → wr.heap.size ≤ k) ∧ Below wr.heap.size wr w2 ∧ ∀ k, SZ k → k < w2.heap.size) := Lib.hid ⟨PZ.below (below_new (Below.refl _ _) _), nZ, kZ, PZ.lt⟩
  have BX := Lib.hid (Blk.new w2 27 #[.pointer (some ⟨wr.heap.size, 0, none⟩), .pointer (some ⟨b2, 0, none⟩)])
  have HG : Hid (PL w l S g6 c6 go gp m st x wr ∧ (∀ j : Nat, j < l.length → ∀ k, S j k → k < wr.heap.size) ∧ g6 < wr.heap.size ∧ w.heap.size ≤ wr.heap.size) := Lib.hid ⟨H.out, fun j hj => (H.out.fam.ent j l[j] (List.getElem?_eq_getElem hj)).lt, own_lt H.out.fam.row rfl, H.out.fam.bel.size⟩
  have HST := Lib.hid (H.out.stp.below (below_new kZ (.cells #[.pointer (some ⟨wr.heap.size, 0, none⟩), .pointer (some ⟨b2, 0, none⟩)] 27)))
  have hzs := kZ.size
  clear PZ nZ kZ f1 n1 f2 n2 k2 C2 y1 HF1 H
  generalize wr.heap.size = bz at *
  
  have PK := fun w => pick_any st.2.2.1 HG.out.1.r1.1 HG.out.1.r1.2 4 (by omega) (by omega) w
  go_upto_region 38 with fail
  obtain ⟨p0, p1, _, _⟩ := BX.out.cells2
  generalize hwz : w2.alloc (.cells #[.pointer (some ⟨bz, 0, none⟩), .pointer (some ⟨b2, 0, none⟩)] 27) = wz at *
  have HQ : Hid (wz.drew.cell? ⟨go, 2, none⟩ = some (.int .i64 st.2.2.1) ∧ wz.drew.cell? ⟨w2.heap.size, 0, none⟩ = some (.pointer (some ⟨bz, 0, none⟩)) ∧ wz.drew.cell? ⟨w2.heap.size, 1, none⟩ = some (.pointer (some ⟨b2, 0, none⟩))) := Lib.hid ⟨HST.out.cell 2, p0, p1⟩
  have HK2 : Hid (∀ o1 o2 u v, ((wz.setCell ⟨g6, o1, none⟩ u).setCell ⟨g6, o2, none⟩ v).drew.cell? ⟨go, 2, none⟩ = some (.int .i64 st.2.2.1) ∧ ((wz.setCell ⟨g6, o1, none⟩ u).setCell ⟨g6, o2, none⟩ v).drew.cell? ⟨w2.heap.size, 0, none⟩ = some (.pointer (some ⟨bz, 0, none⟩)) ∧ ((wz.setCell ⟨g6, o1, none⟩ u).setCell ⟨g6, o2, none⟩ v).drew.cell? ⟨w2.heap.size, 1, none⟩ = some (.pointer (some ⟨b2, 0, none⟩))) := Lib.hid fun o1 o2 u v => by
    have n1 : go ≠ g6 := HG.out.1.no
    have n2 : w2.heap.size ≠ g6 := by have := HG.out.2.2.1; omega
    have k1 := (HST.out.far (a := ⟨g6, o1, none⟩) u n1).far (a := ⟨g6, o2, none⟩) v n1
    have k2 := (BX.out.far (a := ⟨g6, o1, none⟩) u n2).far (a := ⟨g6, o2, none⟩) v n2
    exact ⟨k1.cell 2, k2.cell 0, k2.cell 1⟩
  clear hwz
  go_region_held3 (fun w' => w'.cell? ⟨go, 2, none⟩ = some (.int .i64 st.2.2.1) ∧ w'.cell? ⟨w2.heap.size, 0, none⟩ = some (.pointer (some ⟨bz, 0, none⟩)) ∧ w'.cell? ⟨w2.heap.size, 1, none⟩ = some (.pointer (some ⟨b2, 0, none⟩)))
    (first | exact HQ.out | exact HK2.out _ _ _ _)
    (first | (go_at_call 26; refine (PK _).mono ?_; rintro e w5 ⟨m5, hm5, rfl, rfl⟩; obtain ⟨q0, q1, q2, q3⟩ := HF.out.cells (i := m5) (List.getElem?_eq_getElem (by omega)); have hi5 : (0 : Int) ≤ (m5 : Int) := (by omega); have hj5 : (m5 : Int) < 4 := (by omega)))
  go_wp2_with fail
  have FZ : Hid (PEnd w g6 c6 4 _) := Lib.hid ⟨l.set m5 ⟨bz, b2, x.e, x.F⟩, _, by rw [List.length_set, h4], by omega, by omega, by have := (HF.out.put (i := m5) (by omega) HZ.out.1 (fun k hk => by have := HZ.out.2.1 k hk; have := HG.out.2.2.2; omega) (fun i hi k hk hs => by have := HZ.out.2.1 k hk; have := HG.out.2.1 i hi k hs; omega) (fun hk => by have := HZ.out.2.1 _ hk; have := HG.out.2.2.1; omega)).below (Below.refl _ _).drew; rw [h4] at this; exact this⟩
  exact HKK.out _ _ _ _ _ _ _ _ _ _ _ _ _ _ _ _ _ _ _ _ _ _ _ _ _ _ _ _ _ _ _ _ _ _ _ _ _ _ _ _ _ _ _ _ _ _ _ _ _ _ _ _ _ _ _ _ _ _ _ _ _ _ _ _ _ _ _ _ _ _ _ _ _ _ _ _ _ _ _ _ _ _ _ _ _ FZ
set_option maxHeartbeats 4000000 in
set_option maxRecDepth 100000 in
theorem plays_same {w wr : World} {g6 c6 n : Nat} (H : Hid (PEnd w g6 c6 n wr)) (u0 u1 u2 u3 u4 u5 u7 u8 u9 u10 u11 u12 u13 u14 u15 u16 u17 u18 u19 u20 u21 u22 u23 u24 u25 u27 u28 u29 u30 u31 u32 u33 u34 u35 u36 u37 u38 u39 u40 u41 u42 u43 u44 u45 u46 u47 u48 u49 u50 u51 u52 u53 u54 u55 u56 u57 u58 u59 u60 u61 u62 u63 u64 u65 u66 u67 u68 u69 u70 u71 u72 u73 u74 u75 u76 u77 u78 u79 u80 u81 u82 u83 u84 u85 u86 u87 u88 u89 u90 u91 u92 u93 u94 u95 u96 u97 u98 u99 u100 u101 u102 u103 u104 u105 u106 u107 u108 u109 u110 u111 u112 u113 u114 u115 u116 u117 u118 u119 u120 u121 u122 u123 u124 u125 u126 u127 u128 u129 u130 u131 u132 u133 u134 u135 u136 u137 u138 u139 u140 u141 u142 u143 u144 u145 u146 u147 u148 u149 u150 u151 u152 u153 u154 u155 u156 u157 u158 u159 u160 u161 : Value) {Q : Exit → Act → World → Prop}
    (hK : ∀ (x4 x26 x149 x150 x151 x152 x153 x154 x155 x156 x157 x158 x159 x160 : Value) (wx : World), Hid (PEnd w g6 c6 n wx) → Q .normal ⟨#[u0, u1, u2, u3, x4, u5, .slice (some ⟨g6, 0, none⟩) n c6, u7, u8, u9, u10, u11, u12, u13, u14, u15, u16, u17, u18, u19, u20, u21, u22, u23, u24, u25, x26, u27, u28, u29, u30, u31, u32, u33, u34, u35, u36, u37, u38, u39, u40, u41, u42, u43, u44, u45, u46, u47, u48, u49, u50, u51, u52, u53, u54, u55, u56, u57, u58, u59, u60, u61, u62, u63, u64, u65, u66, u67, u68, u69, u70, u71, u72, u73, u74, u75, u76, u77, u78, u79, u80, u81, u82, u83, u84, u85, u86, u87, u88, u89, u90, u91, u92, u93, u94, u95, u96, u97, u98, u99, u100, u101, u102, u103, u104, u105, u106, u107, u108, u109, u110, u111, u112, u113, u114, u115, u116, u117, u118, u119, u120, u121, u122, u123, u124, u125, u126, u127, u128, u129, u130, u131, u132, u133, u134, u135, u136, u137, u138, u139, u140, u141, u142, u143, u144, u145, u146, u147, u148, x149, x150, x151, x152, x153, x154, x155, x156, x157, x158, x159, x160, u161], []⟩ wx) :
    Code.wp Try.prog plSame Q ⟨#[u0, u1, u2, u3, u4, u5, .slice (some ⟨g6, 0, none⟩) n c6, u7, u8, u9, u10, u11, u12, u13, u14, u15, u16, u17, u18, u19, u20, u21, u22, u23, u24, u25, .int .i64 0, u27, u28, u29, u30, u31, u32, u33, u34, u35, u36, u37, u38, u39, u40, u41, u42, u43, u44, u45, u46, u47, u48, u49, u50, u51, u52, u53, u54, u55, u56, u57, u58, u59, u60, u61, u62, u63, u64, u65, u66, u67, u68, u69, u70, u71, u72, u73, u74, u75, u76, u77, u78, u79, u80, u81, u82, u83, u84, u85, u86, u87, u88, u89, u90, u91, u92, u93, u94, u95, u96, u97, u98, u99, u100, u101, u102, u103, u104, u105, u106, u107, u108, u109, u110, u111, u112, u113, u114, u115, u116, u117, u118, u119, u120, u121, u122, u123, u124, u125, u126, u127, u128, u129, u130, u131, u132, u133, u134, u135, u136, u137, u138, u139, u140, u141, u142, u143, u144, u145, u146, u147, u148, u149, u150, u151, u152, u153, u154, u155, u156, u157, u158, u159, u160, u161], []⟩ wr := by
  conv => arg 2; whnf
  have HKK := Lib.hid hK
  clear hK
  go_wp2_with fail
  go_loopw [26] (fun x26 wq => ∃ k : Nat, k ≤ n ∧ x26 = .int .i64 k ∧ Hid (PEnd w g6 c6 n wq)) (fun x26 _ => n - (intOf x26).toNat)
  case atStart => exact ⟨0, Nat.zero_le _, rfl, H⟩
  case round =>
    obtain ⟨k, hk, rfl, HP⟩ := hrel
    clear H
    by_cases hlt : k < n
    · obtain ⟨l, S, hl, h0, h4, HF⟩ := HP.out
      have hx := List.getElem?_eq_getElem (show k < l.length by omega)
      obtain ⟨q0, q1, q2, q3⟩ := HF.cells hx
      have AL := alike_any (HF.two hx)
      generalize l[k] = x at *
      have HH := Lib.hid (And.intro hl (And.intro h4 HF))
      clear hl hx HF q2 q3
      go_wp2_with fail
      refine AL.mono ?_
      rintro e w7 ⟨rfl, b7⟩
      have HE : Hid (PEnd w g6 c6 n w7) := Lib.hid ⟨l, S, HH.out.1, h0, by have := HH.out.1; have := HH.out.2.1; omega, HH.out.2.2.below b7⟩
      clear AL b7 q0 q1
      go_wp2_with fail
      go_roundw
      case rel => exact ⟨k + 1, by omega, by go_num, HE⟩
      case measure => simp [intOf]; omega
    · have g2 : decide (k < n) = false := by simpa using hlt
      go_wp2_with fail
      exact HKK.out _ _ _ _ _ _ _ _ _ _ _ _ _ _ _ HP
set_option maxHeartbeats 4000000 in
set_option maxRecDepth 100000 in
theorem plays_any {w wr : World} {l : List Two} {S : Nat → Nat → Prop} {g6 c6 go gp m : Nat} {st : Int × Int × Int × Int} {x : Two} (H : Hid (PL w l S g6 c6 go gp m st x wr)) (h4 : l.length ≤ 4) (u0 u1 u2 u3 u4 u5 u7 u8 u9 u10 u11 u12 u13 u17 u18 u19 u20 u21 u22 u23 u24 u25 u26 u27 u28 u29 u30 u31 u32 u33 u34 u35 u36 u37 u38 u39 u40 u41 u42 u43 u44 u45 u46 u47 u48 u49 u50 u51 u52 u53 u54 u55 u56 u57 u58 u59 u60 u61 u62 u63 u64 u65 u66 u67 u68 u69 u70 u71 u72 u73 u74 u75 u76 u78 u79 u80 u81 u82 u83 u84 u85 u86 u87 u88 u89 u90 u91 u92 u93 u94 u95 u96 u97 u98 u99 u100 u101 u102 u103 u104 u105 u106 u107 u108 u109 u110 u111 u112 u113 u114 u115 u116 u117 u118 u119 u120 u121 u122 u123 u124 u125 u126 u127 u128 u129 u130 u131 u132 u133 u134 u135 u136 u137 u138 u139 u140 u141 u142 u143 u144 u145 u146 u147 u148 u149 u150 u151 u152 u153 u154 u155 u156 u157 u158 u159 u160 u161 : Value) {K : Act → World → Prop} {Q : Exit → Act → World → Prop}
    (hK : ∀ (x4 x17 x18 x19 x20 x21 x22 x23 x24 x25 x78 x79 x80 x81 x82 x83 x84 x85 x86 x87 x88 x89 x90 x91 x92 x93 x94 x95 x96 x97 x98 x99 x100 x101 x102 x103 x104 x105 x106 x107 x108 x109 x110 x111 x112 x113 x114 x115 x116 x117 x118 x119 x120 x121 x122 x123 x124 x125 x126 x127 x128 x129 x130 x131 x132 x133 x134 x135 x136 x137 x138 x139 x140 x141 x142 x143 x144 x145 x146 x147 x148 : Value) (g6' c6' n' : Nat) (wx : World), Hid (PEnd w g6' c6' n' wx) → K ⟨#[u0, u1, u2, u3, x4, u5, .slice (some ⟨g6', 0, none⟩) n' c6', u7, u8, u9, u10, u11, u12, u13, .pointer (some ⟨go, 0, none⟩), .int .i64 (m : Int), .pointer (some ⟨gp, 0, none⟩), x17, x18, x19, x20, x21, x22, x23, x24, x25, u26, u27, u28, u29, u30, u31, u32, u33, u34, u35, u36, u37, u38, u39, u40, u41, u42, u43, u44, u45, u46, u47, u48, u49, u50, u51, u52, u53, u54, u55, u56, u57, u58, u59, u60, u61, u62, u63, u64, u65, u66, u67, u68, u69, u70, u71, u72, u73, u74, u75, u76, .int .i64 st.1, x78, x79, x80, x81, x82, x83, x84, x85, x86, x87, x88, x89, x90, x91, x92, x93, x94, x95, x96, x97, x98, x99, x100, x101, x102, x103, x104, x105, x106, x107, x108, x109, x110, x111, x112, x113, x114, x115, x116, x117, x118, x119, x120, x121, x122, x123, x124, x125, x126, x127, x128, x129, x130, x131, x132, x133, x134, x135, x136, x137, x138, x139, x140, x141, x142, x143, x144, x145, x146, x147, x148, u149, u150, u151, u152, u153, u154, u155, u156, u157, u158, u159, u160, u161], []⟩ wx) :
    Code.wp Try.prog plSwitch (Exit.then K Q) ⟨#[u0, u1, u2, u3, u4, u5, .slice (some ⟨g6, 0, none⟩) l.length c6, u7, u8, u9, u10, u11, u12, u13, .pointer (some ⟨go, 0, none⟩), .int .i64 (m : Int), .pointer (some ⟨gp, 0, none⟩), u17, u18, u19, u20, u21, u22, u23, u24, u25, u26, u27, u28, u29, u30, u31, u32, u33, u34, u35, u36, u37, u38, u39, u40, u41, u42, u43, u44, u45, u46, u47, u48, u49, u50, u51, u52, u53, u54, u55, u56, u57, u58, u59, u60, u61, u62, u63, u64, u65, u66, u67, u68, u69, u70, u71, u72, u73, u74, u75, u76, .int .i64 st.1, u78, u79, u80, u81, u82, u83, u84, u85, u86, u87, u88, u89, u90, u91, u92, u93, u94, u95, u96, u97, u98, u99, u100, u101, u102, u103, u104, u105, u106, u107, u108, u109, u110, u111, u112, u113, u114, u115, u116, u117, u118, u119, u120, u121, u122, u123, u124, u125, u126, u127, u128, u129, u130, u131, u132, u133, u134, u135, u136, u137, u138, u139, u140, u141, u142, u143, u144, u145, u146, u147, u148, u149, u150, u151, u152, u153, u154, u155, u156, u157, u158, u159, u160, u161], []⟩ wr := by
  have HKK := Lib.hid hK
  clear hK
  by_cases k1 : st.1 = 1
  · exact plays_add H h4 k1 u0 u1 u2 u3 u4 u5 u7 u8 u9 u10 u11 u12 u13 u17 u18 u19 u20 u21 u22 u23 u24 u25 u26 u27 u28 u29 u30 u31 u32 u33 u34 u35 u36 u37 u38 u39 u40 u41 u42 u43 u44 u45 u46 u47 u48 u49 u50 u51 u52 u53 u54 u55 u56 u57 u58 u59 u60 u61 u62 u63 u64 u65 u66 u67 u68 u69 u70 u71 u72 u73 u74 u75 u76 u78 u79 u80 u81 u82 u83 u84 u85 u86 u87 u88 u89 u90 u91 u92 u93 u94 u95 u96 u97 u98 u99 u100 u101 u102 u103 u104 u105 u106 u107 u108 u109 u110 u111 u112 u113 u114 u115 u116 u117 u118 u119 u120 u121 u122 u123 u124 u125 u126 u127 u128 u129 u130 u131 u132 u133 u134 u135 u136 u137 u138 u139 u140 u141 u142 u143 u144 u145 u146 u147 u148 u149 u150 u151 u152 u153 u154 u155 u156 u157 u158 u159 u160 u161 HKK.out
  · by_cases k2 : st.1 = 2
    · exact plays_new H h4 k2 u0 u1 u2 u3 u4 u5 u7 u8 u9 u10 u11 u12 u13 u17 u18 u19 u20 u21 u22 u23 u24 u25 u26 u27 u28 u29 u30 u31 u32 u33 u34 u35 u36 u37 u38 u39 u40 u41 u42 u43 u44 u45 u46 u47 u48 u49 u50 u51 u52 u53 u54 u55 u56 u57 u58 u59 u60 u61 u62 u63 u64 u65 u66 u67 u68 u69 u70 u71 u72 u73 u74 u75 u76 u78 u79 u80 u81 u82 u83 u84 u85 u86 u87 u88 u89 u90 u91 u92 u93 u94 u95 u96 u97 u98 u99 u100 u101 u102 u103 u104 u105 u106 u107 u108 u109 u110 u111 u112 u113 u114 u115 u116 u117 u118 u119 u120 u121 u122 u123 u124 u125 u126 u127 u128 u129 u130 u131 u132 u133 u134 u135 u136 u137 u138 u139 u140 u141 u142 u143 u144 u145 u146 u147 u148 u149 u150 u151 u152 u153 u154 u155 u156 u157 u158 u159 u160 u161 HKK.out
    · by_cases k3 : st.1 = 3
      · by_cases h5 : l.length < 4
        · exact plays_clone H h5 k3 u0 u1 u2 u3 u4 u5 u7 u8 u9 u10 u11 u12 u13 u17 u18 u19 u20 u21 u22 u23 u24 u25 u26 u27 u28 u29 u30 u31 u32 u33 u34 u35 u36 u37 u38 u39 u40 u41 u42 u43 u44 u45 u46 u47 u48 u49 u50 u51 u52 u53 u54 u55 u56 u57 u58 u59 u60 u61 u62 u63 u64 u65 u66 u67 u68 u69 u70 u71 u72 u73 u74 u75 u76 u78 u79 u80 u81 u82 u83 u84 u85 u86 u87 u88 u89 u90 u91 u92 u93 u94 u95 u96 u97 u98 u99 u100 u101 u102 u103 u104 u105 u106 u107 u108 u109 u110 u111 u112 u113 u114 u115 u116 u117 u118 u119 u120 u121 u122 u123 u124 u125 u126 u127 u128 u129 u130 u131 u132 u133 u134 u135 u136 u137 u138 u139 u140 u141 u142 u143 u144 u145 u146 u147 u148 u149 u150 u151 u152 u153 u154 u155 u156 u157 u158 u159 u160 u161 HKK.out
        · exact plays_put H (by omega) k3 u0 u1 u2 u3 u4 u5 u7 u8 u9 u10 u11 u12 u13 u17 u18 u19 u20 u21 u22 u23 u24 u25 u26 u27 u28 u29 u30 u31 u32 u33 u34 u35 u36 u37 u38 u39 u40 u41 u42 u43 u44 u45 u46 u47 u48 u49 u50 u51 u52 u53 u54 u55 u56 u57 u58 u59 u60 u61 u62 u63 u64 u65 u66 u67 u68 u69 u70 u71 u72 u73 u74 u75 u76 u78 u79 u80 u81 u82 u83 u84 u85 u86 u87 u88 u89 u90 u91 u92 u93 u94 u95 u96 u97 u98 u99 u100 u101 u102 u103 u104 u105 u106 u107 u108 u109 u110 u111 u112 u113 u114 u115 u116 u117 u118 u119 u120 u121 u122 u123 u124 u125 u126 u127 u128 u129 u130 u131 u132 u133 u134 u135 u136 u137 u138 u139 u140 u141 u142 u143 u144 u145 u146 u147 u148 u149 u150 u151 u152 u153 u154 u155 u156 u157 u158 u159 u160 u161 HKK.out
      · exact plays_none H h4 ⟨k1, k2, k3⟩ u0 u1 u2 u3 u4 u5 u7 u8 u9 u10 u11 u12 u13 u17 u18 u19 u20 u21 u22 u23 u24 u25 u26 u27 u28 u29 u30 u31 u32 u33 u34 u35 u36 u37 u38 u39 u40 u41 u42 u43 u44 u45 u46 u47 u48 u49 u50 u51 u52 u53 u54 u55 u56 u57 u58 u59 u60 u61 u62 u63 u64 u65 u66 u67 u68 u69 u70 u71 u72 u73 u74 u75 u76 u78 u79 u80 u81 u82 u83 u84 u85 u86 u87 u88 u89 u90 u91 u92 u93 u94 u95 u96 u97 u98 u99 u100 u101 u102 u103 u104 u105 u106 u107 u108 u109 u110 u111 u112 u113 u114 u115 u116 u117 u118 u119 u120 u121 u122 u123 u124 u125 u126 u127 u128 u129 u130 u131 u132 u133 u134 u135 u136 u137 u138 u139 u140 u141 u142 u143 u144 u145 u146 u147 u148 u149 u150 u151 u152 u153 u154 u155 u156 u157 u158 u159 u160 u161 HKK.out
end Go.Proofs.Ytanhhgifcolfaaa
