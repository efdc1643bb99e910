/-
  CutComes: the rest grows by one (a drawn region).
-/
import Derived.Test.YtanhhgifcolfaaaCuComeB
import Derived.Test.YtanhhgifcolfaaaHuAddR
namespace Go.Proofs.Ytanhhgifcolfaaa
open Go.RowKit
set_option linter.unusedVariables false
set_option linter.unusedSimpArgs false

noncomputable def comeAp : Code := regAt 27 (Try.f12.body.getD .skip)
set_option maxHeartbeats 4000000 in
set_option maxRecDepth 100000 in
theorem come_append {lb lo n c3 idx j m a v d : Nat} {V : Value} {ls : List Nat} {w0 w : World} (hV : Ns w0 V ls w) (hm : ls.length = m) (hj : j < n) (hi : idx < n) (hn : n ≤ 17592186044416) (hmn : m < 17592186044416) (hv : v ≤ 17592186044416) (hd : (v : Int) - (a : Int) = (d : Int))
    (hc : ∀ w', Below w0.heap.size w0 w' → w'.cell? ⟨lb, lo + j, none⟩ = some (.int .i64 (v : Int)) ∧ w'.cell? ⟨lb, lo + idx, none⟩ = some (.int .i64 (a : Int))) (u0 u1 u2 u3 u4 u5 u6 u7 u8 u9 u10 u12 u13 u14 u15 u16 u18 u19 u22 u23 u24 u25 u26 u27 u28 u29 u30 u31 u32 u33 u34 u35 u36 u37 u38 u39 u40 u41 u42 u43 u44 u45 u46 u47 u48 u49 u50 u51 u52 u53 u54 u55 u56 u57 u58 u59 u60 u61 u62 u63 u64 u65 u66 u67 u68 u69 u70 u71 u72 u73 u74 u75 u76 u77 u78 u79 u80 u81 u82 u83 u84 u85 u86 u87 u88 u89 u90 u91 u92 u93 u94 u95 u96 u97 u98 u99 u100 u101 u102 u103 u104 u105 u106 u107 u108 u109 u110 u111 u112 u113 u114 u115 u116 u117 u118 u119 u120 u121 u122 u123 u124 u125 u126 u127 u128 u129 u130 u131 u132 u133 u134 u135 u136 u137 u138 u139 u140 u141 u142 u143 u144 u145 u146 u147 u148 u149 u150 u151 u152 u153 u154 u155 u156 u157 u158 u159 u160 u161 u162 u163 u164 u165 u166 u167 : Value) {Q : Exit → Act → World → Prop}
    (hQ : ∀ (gn capn : Nat) (x146 x147 x148 x149 x150 x151 x152 x153 x154 x155 x156 x157 : Value) (w5 : World), Ns w0 (.slice (some ⟨gn, 0, none⟩) (m + 1) capn) (ls ++ [d]) w5 → Q .normal ⟨#[u0, u1, u2, u3, u4, u5, u6, u7, u8, u9, u10, .slice (some ⟨lb, lo, none⟩) n c3, u12, u13, u14, u15, u16, .int .i64 (idx : Int), u18, u19, .slice (some ⟨gn, 0, none⟩) (m + 1) capn, .int .i64 (j : Int), u22, u23, u24, u25, u26, u27, u28, u29, u30, u31, u32, u33, u34, u35, u36, u37, u38, u39, u40, u41, u42, u43, u44, u45, u46, u47, u48, u49, u50, u51, u52, u53, u54, u55, u56, u57, u58, u59, u60, u61, u62, u63, u64, u65, u66, u67, u68, u69, u70, u71, u72, u73, u74, u75, u76, u77, u78, u79, u80, u81, u82, u83, u84, u85, u86, u87, u88, u89, u90, u91, u92, u93, u94, u95, u96, u97, u98, u99, u100, u101, u102, u103, u104, u105, u106, u107, u108, u109, u110, u111, u112, u113, u114, u115, u116, u117, u118, u119, u120, u121, u122, u123, u124, u125, u126, u127, u128, u129, u130, u131, u132, u133, u134, u135, u136, u137, u138, u139, u140, u141, u142, u143, u144, u145, x146, x147, x148, x149, x150, x151, x152, x153, x154, x155, x156, x157, u158, u159, u160, u161, u162, u163, u164, u165, u166, u167], []⟩ w5) :
    Code.wp Try.prog comeAp Q ⟨#[u0, u1, u2, u3, u4, u5, u6, u7, u8, u9, u10, .slice (some ⟨lb, lo, none⟩) n c3, u12, u13, u14, u15, u16, .int .i64 (idx : Int), u18, u19, V, .int .i64 (j : Int), u22, u23, u24, u25, u26, u27, u28, u29, u30, u31, u32, u33, u34, u35, u36, u37, u38, u39, u40, u41, u42, u43, u44, u45, u46, u47, u48, u49, u50, u51, u52, u53, u54, u55, u56, u57, u58, u59, u60, u61, u62, u63, u64, u65, u66, u67, u68, u69, u70, u71, u72, u73, u74, u75, u76, u77, u78, u79, u80, u81, u82, u83, u84, u85, u86, u87, u88, u89, u90, u91, u92, u93, u94, u95, u96, u97, u98, u99, u100, u101, u102, u103, u104, u105, u106, u107, u108, u109, u110, u111, u112, u113, u114, u115, u116, u117, u118, u119, u120, u121, u122, u123, u124, u125, u126, u127, u128, u129, u130, u131, u132, u133, u134, u135, u136, u137, u138, u139, u140, u141, u142, u143, u144, u145, u146, u147, u148, u149, u150, u151, u152, u153, u154, u155, u156, u157, u158, u159, u160, u161, u162, u163, u164, u165, u166, u167], []⟩ w := by
  conv => arg 2; whnf
  have HQ := Lib.hid hQ
  have HV := Lib.hid hV
  have KS := Lib.hid hc
  have HM := Lib.hid hm
  obtain ⟨i0, hi0, hz0, hz1, hz2⟩ := info_parts infoI
  have HFO : Hid (∀ u ∈ ([.int .i64 (d : Int)] : List Value), u.oneCell' = true) := Lib.hid (by intro u hu; simp at hu; rcases hu with rfl; rfl)
  obtain ⟨A, cc, hVV, _⟩ := hV.arg
  rw [hm] at hVV
  subst hVV
  have HO1 : Hid ((w.alloc (.cells #[.int .i64 (d : Int)] 3)).drew.ownsRow 0 3 1 (.slice A m cc) m (ls.map (fun (n : Nat) => Value.int .i64 (n : Int)))) := Lib.hid (by
    have := own_chg HV.out.1 (((Chg.refl (fun _ => False) w).alloc (.cells #[.int .i64 (d : Int)] 3)).drew) (fun _ _ h => h)
    rwa [hm] at this)
  have u1 : IntKind.i64.wrap ((v : Int) - (a : Int)) = (d : Int) := by rw [hd]; exact IntWalk.i64_in _ (by omega)
  have j1 : (0 : Int) ≤ (j : Int) := by omega
  have j2 : (j : Int) < (n : Int) := by omega
  have i1 : (0 : Int) ≤ (idx : Int) := by omega
  have i2 : (idx : Int) < (n : Int) := by omega
  have S0 : Hid (w.drew.cell? ⟨lb, lo + j, none⟩ = some (.int .i64 (v : Int)) ∧ w.drew.cell? ⟨lb, lo + idx, none⟩ = some (.int .i64 (a : Int))) := Lib.hid (hc _ hV.2.2.drew)
  have q0 : w.cell? ⟨lb, lo + j, none⟩ = some (.int .i64 (v : Int)) := (hc _ hV.2.2).1
  have q1 : w.cell? ⟨lb, lo + idx, none⟩ = some (.int .i64 (a : Int)) := (hc _ hV.2.2).2
  clear hQ hV hc hm hd
  go_region_held3 (fun w' => w'.cell? ⟨lb, lo + j, none⟩ = some (.int .i64 (v : Int)) ∧ w'.cell? ⟨lb, lo + idx, none⟩ = some (.int .i64 (a : Int)))
    (first | exact S0.out | exact KS.out _ HG2.out.2.2 | exact KS.out _ (below_new HV.out.2.2 _).drew | exact KS.out _ (HV.out.2.2.drew))
    ((go_loud (refine step_append_lies _ (by rfl) (.tmp 146) (.tmp 156) 52 (by rfl) 0 3 i0 _ 1 8 Try.underlying52 hi0 hz0 hz1 hz2 rfl (by omega) (.slice A m cc) m (ls.map (fun (n : Nat) => Value.int .i64 (n : Int))) (by simp [Act.eval, Act.put]) HO1.out ⟨w.heap.size, 0, none⟩ 1 1 [.int .i64 (d : Int)] (by simp [Act.eval, Act.put]) (by rfl) (World.news_of_block (Blk.drew (Blk.new w 3 #[.int .i64 (d : Int)]))) HFO.out (by omega) (by unfold maxLen; omega) (by omega) (Nat.zero_le _) (w.heap.size + 1) (by simp) ?_); intro gn capn wn hown hgr hat hltn; have HG2 := Lib.hid (HV.out.grown' HM.out (((Chg.refl (fun _ => False) _).alloc _).drew) hown hgr hat (by omega)); clear hown hgr hat hltn))
  all_goals exact HQ.out _ _ _ _ _ _ _ _ _ _ _ _ _ _ _ HG2.out
end Go.Proofs.Ytanhhgifcolfaaa
