/-
  HullPlays: the switch of a round: a key for both, or nothing.
-/
import Derived.Test.YtanhhgifcolfaaaHuFam
namespace Go.Proofs.Ytanhhgifcolfaaa
open Go.RowKit
set_option linter.unusedVariables false
set_option linter.unusedSimpArgs false

/-- The script that came in: kind, on, n, key. -/
def ArgS (w : World) (A : Option Addr) (n : Nat) (T : Nat → Int × Int × Int × Int) : Prop := 0 < n → ∃ b o, A = some ⟨b, o, none⟩ ∧ b < w.heap.size ∧
  ∀ i, i < n → (-9223372036854775808 ≤ (T i).2.1 ∧ (T i).2.1 ≤ 9223372036854775807) ∧ (-9223372036854775808 ≤ (T i).2.2.1 ∧ (T i).2.2.1 ≤ 9223372036854775807) ∧ u64ok (T i).2.2.2 ∧
    w.cell? ⟨b, o + i * 4, none⟩ = some (.int .i64 (T i).1) ∧ w.cell? ⟨b, o + i * 4 + 1, none⟩ = some (.int .i64 (T i).2.1) ∧ w.cell? ⟨b, o + i * 4 + 2, none⟩ = some (.int .i64 (T i).2.2.1) ∧ w.cell? ⟨b, o + i * 4 + 3, none⟩ = some (.int .u64 (T i).2.2.2)
theorem made_any (eps : Int) (w : World) :
    Calls Try.prog 15 #[.int .i64 eps] w fun e' w' => ∃ (is : Bool) (p q : Option Addr), e' = .returned (.tuple #[.agg #[.pointer p, .pointer q], .bool is, .bool true]) ∧ Below w.heap.size w w' ∧
      (is = true → ∃ b1 b2, p = some ⟨b1, 0, none⟩ ∧ q = some ⟨b2, 0, none⟩ ∧ Pair2 w b1 b2 (eps - 1) Fit.zero Fit.zero w') := by
  by_cases h : eps < 2 ∨ 64 < eps
  · refine (made_bad eps h w).mono ?_
    rintro e' w' ⟨rfl, hb⟩
    exact ⟨false, none, none, rfl, hb, fun h => by simp at h⟩
  · refine (made_good eps (by omega) (by omega) w).mono ?_
    rintro e' w' ⟨b1, b2, rfl, P⟩
    exact ⟨true, _, _, rfl, P.bel, fun _ => ⟨b1, b2, rfl, rfl, P⟩⟩
theorem infoT : (Try.prog.info? 27).map (fun i => (i.zero, i.size, i.bytes)) = some (some (.agg #[.pointer none, .pointer none]), 2, 16) := by kernel_rfl
/-- The block of number n in a code. -/
def blkAt (n : Nat) : Code → Code
  | .block k c => if k = n then .block k c else blkAt n c
  | .seq a b => match blkAt n a with
    | .skip => blkAt n b
    | c => c
  | .cond _ a b => match blkAt n a with
    | .skip => blkAt n b
    | c => c
  | .loop c => blkAt n c
  | .scope c => blkAt n c
  | _ => .skip
noncomputable def plSwitch : Code := blkAt 2 (Try.f8.body.getD .skip)
noncomputable def plSame : Code := blkAt 3 (Try.f8.body.getD .skip)
/-- What a round has laid by when it comes to its switch: the step, and the pair that it speaks of. -/
structure PL (w : World) (l : List Two) (S : Nat → Nat → Prop) (g6 c6 go gp m : Nat) (st : Int × Int × Int × Int) (x : Two) (wr : World) : Prop where
  fam : Fam w l S (.slice (some ⟨g6, 0, none⟩) l.length c6) wr
  stp : Blk wr go 47 #[.int .i64 st.1, .int .i64 st.2.1, .int .i64 st.2.2.1, .int .u64 st.2.2.2]
  par : Blk wr gp 27 #[.pointer (some ⟨x.b1, 0, none⟩), .pointer (some ⟨x.b2, 0, none⟩)]
  at_ : l[m]? = some x
  so : ∀ i : Nat, i < l.length → ¬ S i go
  sp : ∀ i : Nat, i < l.length → ¬ S i gp
  no : go ≠ g6
  np : gp ≠ g6
  r1 : -9223372036854775808 ≤ st.2.2.1 ∧ st.2.2.1 ≤ 9223372036854775807
  key : u64ok st.2.2.2
theorem PL.m {w : World} {l : List Two} {S : Nat → Nat → Prop} {g6 c6 go gp m : Nat} {st : Int × Int × Int × Int} {x : Two} {wr : World} (h : PL w l S g6 c6 go gp m st x wr) : m < l.length := (List.getElem?_eq_some_iff.1 h.at_).1
/-- A round's end: the family, and how many they are. -/
def PEnd (w : World) (g6 c6 n : Nat) (wx : World) : Prop := ∃ (l : List Two) (S : Nat → Nat → Prop), l.length = n ∧ 0 < n ∧ n ≤ 4 ∧ Fam w l S (.slice (some ⟨g6, 0, none⟩) n c6) wx
theorem PL.pend {w : World} {l : List Two} {S : Nat → Nat → Prop} {g6 c6 go gp m : Nat} {st : Int × Int × Int × Int} {x : Two} {wr : World} (h : PL w l S g6 c6 go gp m st x wr) (h4 : l.length ≤ 4) : PEnd w g6 c6 l.length wr :=
  ⟨l, S, rfl, by have := h.m; omega, h4, h.fam⟩
/-- Between the two keys. -/
theorem PL.mid {w : World} {l : List Two} {S : Nat → Nat → Prop} {g6 c6 go gp m : Nat} {st : Int × Int × Int × Int} {x : Two} {wr w5 : World} (h : PL w l S g6 c6 go gp m st x wr)
    (k : ∃ S1 T1, FitO w5 x.b1 x.e (x.F.add x.e st.2.2.2).2 S1 ∧ RefO w5 x.b2 x.e x.F T1 ∧ (∀ k, S1 k → ¬ T1 k) ∧ Chg (S m) wr w5 ∧ (∀ k, S1 k ∨ T1 k → S m k ∨ wr.heap.size ≤ k)) :
    Blk w5 gp 27 #[.pointer (some ⟨x.b1, 0, none⟩), .pointer (some ⟨x.b2, 0, none⟩)] ∧ Blk w5 go 47 #[.int .i64 st.1, .int .i64 st.2.1, .int .i64 st.2.2.1, .int .u64 st.2.2.2] := by
  obtain ⟨S1, T1, f1, f2, f3, f4, f5⟩ := k
  exact ⟨h.par.chg f4 (h.sp m h.m), h.stp.chg f4 (h.so m h.m)⟩
theorem PL.end_ {w : World} {l : List Two} {S : Nat → Nat → Prop} {g6 c6 go gp m : Nat} {st : Int × Int × Int × Int} {x : Two} {wr w6 : World} (h : PL w l S g6 c6 go gp m st x wr) (h4 : l.length ≤ 4)
    (k : ∃ S', PairS w6 ⟨x.b1, x.b2, x.e, (x.F.add x.e st.2.2.2).2⟩ S' ∧ Chg (S m) wr w6 ∧ (∀ k, S' k → S m k ∨ wr.heap.size ≤ k)) : PEnd w g6 c6 l.length w6 := by
  obtain ⟨S', p, c, n⟩ := k
  exact ⟨l.set m _, _, List.length_set, by have := h.m; omega, h4, h.fam.turn h.at_ p rfl rfl c n⟩
set_option maxHeartbeats 4000000 in
set_option maxRecDepth 100000 in
theorem plays_add {w wr : World} {l : List Two} {S : Nat → Nat → Prop} {g6 c6 go gp m : Nat} {st : Int × Int × Int × Int} {x : Two} (H : Hid (PL w l S g6 c6 go gp m st x wr)) (h4 : l.length ≤ 4) (hkd : st.1 = 1) (u0 u1 u2 u3 u4 u5 u7 u8 u9 u10 u11 u12 u13 u17 u18 u19 u20 u21 u22 u23 u24 u25 u26 u27 u28 u29 u30 u31 u32 u33 u34 u35 u36 u37 u38 u39 u40 u41 u42 u43 u44 u45 u46 u47 u48 u49 u50 u51 u52 u53 u54 u55 u56 u57 u58 u59 u60 u61 u62 u63 u64 u65 u66 u67 u68 u69 u70 u71 u72 u73 u74 u75 u76 u78 u79 u80 u81 u82 u83 u84 u85 u86 u87 u88 u89 u90 u91 u92 u93 u94 u95 u96 u97 u98 u99 u100 u101 u102 u103 u104 u105 u106 u107 u108 u109 u110 u111 u112 u113 u114 u115 u116 u117 u118 u119 u120 u121 u122 u123 u124 u125 u126 u127 u128 u129 u130 u131 u132 u133 u134 u135 u136 u137 u138 u139 u140 u141 u142 u143 u144 u145 u146 u147 u148 u149 u150 u151 u152 u153 u154 u155 u156 u157 u158 u159 u160 u161 : Value) {K : Act → World → Prop} {Q : Exit → Act → World → Prop}
    (hK : ∀ (x4 x17 x18 x19 x20 x21 x22 x23 x24 x25 x78 x79 x80 x81 x82 x83 x84 x85 x86 x87 x88 x89 x90 x91 x92 x93 x94 x95 x96 x97 x98 x99 x100 x101 x102 x103 x104 x105 x106 x107 x108 x109 x110 x111 x112 x113 x114 x115 x116 x117 x118 x119 x120 x121 x122 x123 x124 x125 x126 x127 x128 x129 x130 x131 x132 x133 x134 x135 x136 x137 x138 x139 x140 x141 x142 x143 x144 x145 x146 x147 x148 : Value) (g6' c6' n' : Nat) (wx : World), Hid (PEnd w g6' c6' n' wx) → K ⟨#[u0, u1, u2, u3, x4, u5, .slice (some ⟨g6', 0, none⟩) n' c6', u7, u8, u9, u10, u11, u12, u13, .pointer (some ⟨go, 0, none⟩), .int .i64 (m : Int), .pointer (some ⟨gp, 0, none⟩), x17, x18, x19, x20, x21, x22, x23, x24, x25, u26, u27, u28, u29, u30, u31, u32, u33, u34, u35, u36, u37, u38, u39, u40, u41, u42, u43, u44, u45, u46, u47, u48, u49, u50, u51, u52, u53, u54, u55, u56, u57, u58, u59, u60, u61, u62, u63, u64, u65, u66, u67, u68, u69, u70, u71, u72, u73, u74, u75, u76, .int .i64 st.1, x78, x79, x80, x81, x82, x83, x84, x85, x86, x87, x88, x89, x90, x91, x92, x93, x94, x95, x96, x97, x98, x99, x100, x101, x102, x103, x104, x105, x106, x107, x108, x109, x110, x111, x112, x113, x114, x115, x116, x117, x118, x119, x120, x121, x122, x123, x124, x125, x126, x127, x128, x129, x130, x131, x132, x133, x134, x135, x136, x137, x138, x139, x140, x141, x142, x143, x144, x145, x146, x147, x148, u149, u150, u151, u152, u153, u154, u155, u156, u157, u158, u159, u160, u161], []⟩ wx) :
    Code.wp Try.prog plSwitch (Exit.then K Q) ⟨#[u0, u1, u2, u3, u4, u5, .slice (some ⟨g6, 0, none⟩) l.length c6, u7, u8, u9, u10, u11, u12, u13, .pointer (some ⟨go, 0, none⟩), .int .i64 (m : Int), .pointer (some ⟨gp, 0, none⟩), u17, u18, u19, u20, u21, u22, u23, u24, u25, u26, u27, u28, u29, u30, u31, u32, u33, u34, u35, u36, u37, u38, u39, u40, u41, u42, u43, u44, u45, u46, u47, u48, u49, u50, u51, u52, u53, u54, u55, u56, u57, u58, u59, u60, u61, u62, u63, u64, u65, u66, u67, u68, u69, u70, u71, u72, u73, u74, u75, u76, .int .i64 st.1, u78, u79, u80, u81, u82, u83, u84, u85, u86, u87, u88, u89, u90, u91, u92, u93, u94, u95, u96, u97, u98, u99, u100, u101, u102, u103, u104, u105, u106, u107, u108, u109, u110, u111, u112, u113, u114, u115, u116, u117, u118, u119, u120, u121, u122, u123, u124, u125, u126, u127, u128, u129, u130, u131, u132, u133, u134, u135, u136, u137, u138, u139, u140, u141, u142, u143, u144, u145, u146, u147, u148, u149, u150, u151, u152, u153, u154, u155, u156, u157, u158, u159, u160, u161], []⟩ wr := by
  conv => arg 2; whnf
  have HKK := Lib.hid hK
  clear hK
  have hg1 : (st.1 == 1) = true := by rw [hkd]; rfl
  clear hkd
  have hat := H.out.at_
  obtain ⟨S1, T1, h1, h2, h3, hS⟩ := H.out.fam.ent m x hat
  have C2 := refO_Count h2
  have x0 : wr.cell? ⟨gp, 0, none⟩ = some (.pointer (some ⟨x.b1, 0, none⟩)) := H.out.par.cell 0
  have x1 : wr.cell? ⟨gp, 1, none⟩ = some (.pointer (some ⟨x.b2, 0, none⟩)) := H.out.par.cell 1
  have x3 : wr.cell? ⟨go, 3, none⟩ = some (.int .u64 st.2.2.2) := H.out.stp.cell 3
  have HS := Lib.hid (show PairS wr x (S m) from ⟨S1, T1, h1, h2, h3, hS⟩)
  have HAT := Lib.hid hat
  have hlt := H.out.m
  clear h1 h2 h3 hS hat
  by_cases hk : (x.F.keys.length : Int) < 400
  · have g1 : decide ((x.F.keys.length : Int) < 400) = true := by simpa using hk
    have HK := Lib.hid hk
    clear hk
    go_wp2_with fail
    refine C2.mono ?_
    rintro e w3 ⟨rfl, rfl⟩
    clear C2
    have A1 := HS.out.add1 H.out.key (by have := HK.out; omega)
    go_wp2_with fail
    refine A1.mono ?_
    rintro e w5 ⟨rfl, P1⟩
    have HP1 := Lib.hid (H.out.mid P1)
    obtain ⟨S1, T1, f1, f2, f3, f4, f5⟩ := P1
    have A2 := add2_pair f1 f2 f3 f4 f5 H.out.key (by have := HK.out; omega)
    have y1 : w5.cell? ⟨gp, 1, none⟩ = some (.pointer (some ⟨x.b2, 0, none⟩)) := HP1.out.1.cell 1
    have y3 : w5.cell? ⟨go, 3, none⟩ = some (.int .u64 st.2.2.2) := HP1.out.2.cell 3
    clear A1 f1 f2 f3 f4 f5 x0 x1 x3
    go_wp2_with fail
    refine A2.mono ?_
    rintro e w6 ⟨rfl, P2⟩
    have HP2 := Lib.hid (H.out.end_ h4 P2)
    clear A2 y1 y3 P2
    go_wp2_with fail
    exact HKK.out _ _ _ _ _ _ _ _ _ _ _ _ _ _ _ _ _ _ _ _ _ _ _ _ _ _ _ _ _ _ _ _ _ _ _ _ _ _ _ _ _ _ _ _ _ _ _ _ _ _ _ _ _ _ _ _ _ _ _ _ _ _ _ _ _ _ _ _ _ _ _ _ _ _ _ _ _ _ _ _ _ _ _ _ _ (Lib.hid HP2.out)
  · have g1 : decide ((x.F.keys.length : Int) < 400) = false := by simpa using hk
    clear hk
    go_wp2_with fail
    refine C2.mono ?_
    rintro e w3 ⟨rfl, rfl⟩
    clear C2
    go_wp2_with fail
    exact HKK.out _ _ _ _ _ _ _ _ _ _ _ _ _ _ _ _ _ _ _ _ _ _ _ _ _ _ _ _ _ _ _ _ _ _ _ _ _ _ _ _ _ _ _ _ _ _ _ _ _ _ _ _ _ _ _ _ _ _ _ _ _ _ _ _ _ _ _ _ _ _ _ _ _ _ _ _ _ _ _ _ _ _ _ _ _ (Lib.hid (H.out.pend h4))
set_option maxHeartbeats 4000000 in
set_option maxRecDepth 100000 in
theorem plays_none {w wr : World} {l : List Two} {S : Nat → Nat → Prop} {g6 c6 go gp m : Nat} {st : Int × Int × Int × Int} {x : Two} (H : Hid (PL w l S g6 c6 go gp m st x wr)) (h4 : l.length ≤ 4) (hn : st.1 ≠ 1 ∧ st.1 ≠ 2 ∧ st.1 ≠ 3) (u0 u1 u2 u3 u4 u5 u7 u8 u9 u10 u11 u12 u13 u17 u18 u19 u20 u21 u22 u23 u24 u25 u26 u27 u28 u29 u30 u31 u32 u33 u34 u35 u36 u37 u38 u39 u40 u41 u42 u43 u44 u45 u46 u47 u48 u49 u50 u51 u52 u53 u54 u55 u56 u57 u58 u59 u60 u61 u62 u63 u64 u65 u66 u67 u68 u69 u70 u71 u72 u73 u74 u75 u76 u78 u79 u80 u81 u82 u83 u84 u85 u86 u87 u88 u89 u90 u91 u92 u93 u94 u95 u96 u97 u98 u99 u100 u101 u102 u103 u104 u105 u106 u107 u108 u109 u110 u111 u112 u113 u114 u115 u116 u117 u118 u119 u120 u121 u122 u123 u124 u125 u126 u127 u128 u129 u130 u131 u132 u133 u134 u135 u136 u137 u138 u139 u140 u141 u142 u143 u144 u145 u146 u147 u148 u149 u150 u151 u152 u153 u154 u155 u156 u157 u158 u159 u160 u161 : Value) {K : Act → World → Prop} {Q : Exit → Act → World → Prop}
    (hK : ∀ (x4 x17 x18 x19 x20 x21 x22 x23 x24 x25 x78 x79 x80 x81 x82 x83 x84 x85 x86 x87 x88 x89 x90 x91 x92 x93 x94 x95 x96 x97 x98 x99 x100 x101 x102 x103 x104 x105 x106 x107 x108 x109 x110 x111 x112 x113 x114 x115 x116 x117 x118 x119 x120 x121 x122 x123 x124 x125 x126 x127 x128 x129 x130 x131 x132 x133 x134 x135 x136 x137 x138 x139 x140 x141 x142 x143 x144 x145 x146 x147 x148 : Value) (g6' c6' n' : Nat) (wx : World), Hid (PEnd w g6' c6' n' wx) → K ⟨#[u0, u1, u2, u3, x4, u5, .slice (some ⟨g6', 0, none⟩) n' c6', u7, u8, u9, u10, u11, u12, u13, .pointer (some ⟨go, 0, none⟩), .int .i64 (m : Int), .pointer (some ⟨gp, 0, none⟩), x17, x18, x19, x20, x21, x22, x23, x24, x25, u26, u27, u28, u29, u30, u31, u32, u33, u34, u35, u36, u37, u38, u39, u40, u41, u42, u43, u44, u45, u46, u47, u48, u49, u50, u51, u52, u53, u54, u55, u56, u57, u58, u59, u60, u61, u62, u63, u64, u65, u66, u67, u68, u69, u70, u71, u72, u73, u74, u75, u76, .int .i64 st.1, x78, x79, x80, x81, x82, x83, x84, x85, x86, x87, x88, x89, x90, x91, x92, x93, x94, x95, x96, x97, x98, x99, x100, x101, x102, x103, x104, x105, x106, x107, x108, x109, x110, x111, x112, x113, x114, x115, x116, x117, x118, x119, x120, x121, x122, x123, x124, x125, x126, x127, x128, x129, x130, x131, x132, x133, x134, x135, x136, x137, x138, x139, x140, x141, x142, x143, x144, x145, x146, x147, x148, u149, u150, u151, u152, u153, u154, u155, u156, u157, u158, u159, u160, u161], []⟩ wx) :
    Code.wp Try.prog plSwitch (Exit.then K Q) ⟨#[u0, u1, u2, u3, u4, u5, .slice (some ⟨g6, 0, none⟩) l.length c6, u7, u8, u9, u10, u11, u12, u13, .pointer (some ⟨go, 0, none⟩), .int .i64 (m : Int), .pointer (some ⟨gp, 0, none⟩), u17, u18, u19, u20, u21, u22, u23, u24, u25, u26, u27, u28, u29, u30, u31, u32, u33, u34, u35, u36, u37, u38, u39, u40, u41, u42, u43, u44, u45, u46, u47, u48, u49, u50, u51, u52, u53, u54, u55, u56, u57, u58, u59, u60, u61, u62, u63, u64, u65, u66, u67, u68, u69, u70, u71, u72, u73, u74, u75, u76, .int .i64 st.1, u78, u79, u80, u81, u82, u83, u84, u85, u86, u87, u88, u89, u90, u91, u92, u93, u94, u95, u96, u97, u98, u99, u100, u101, u102, u103, u104, u105, u106, u107, u108, u109, u110, u111, u112, u113, u114, u115, u116, u117, u118, u119, u120, u121, u122, u123, u124, u125, u126, u127, u128, u129, u130, u131, u132, u133, u134, u135, u136, u137, u138, u139, u140, u141, u142, u143, u144, u145, u146, u147, u148, u149, u150, u151, u152, u153, u154, u155, u156, u157, u158, u159, u160, u161], []⟩ wr := by
  conv => arg 2; whnf
  have HKK := Lib.hid hK
  clear hK
  have g1 : (st.1 == 1) = false := beq_eq_false_iff_ne.2 hn.1
  have g2 : (st.1 == 2) = false := beq_eq_false_iff_ne.2 hn.2.1
  have g3 : (st.1 == 3) = false := beq_eq_false_iff_ne.2 hn.2.2
  clear hn
  go_wp2_with fail
  exact HKK.out _ _ _ _ _ _ _ _ _ _ _ _ _ _ _ _ _ _ _ _ _ _ _ _ _ _ _ _ _ _ _ _ _ _ _ _ _ _ _ _ _ _ _ _ _ _ _ _ _ _ _ _ _ _ _ _ _ _ _ _ _ _ _ _ _ _ _ _ _ _ _ _ _ _ _ _ _ _ _ _ _ _ _ _ _ (Lib.hid (H.out.pend h4))
end Go.Proofs.Ytanhhgifcolfaaa
