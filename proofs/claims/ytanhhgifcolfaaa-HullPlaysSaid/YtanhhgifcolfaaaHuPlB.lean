/-
  HullPlays: the switch of a round: a new one in the place of one; a clone.
-/
import Derived.Test.YtanhhgifcolfaaaHuPlA
namespace Go.Proofs.Ytanhhgifcolfaaa
open Go.RowKit
set_option linter.unusedVariables false
set_option linter.unusedSimpArgs false

/-- An entry's cells. -/
theorem Fam.cells {w0 w : World} {l : List Two} {S : Nat → Nat → Prop} {g n c i : Nat} {x : Two} (h : Fam w0 l S (.slice (some ⟨g, 0, none⟩) n c) w) (hx : l[i]? = some x) :
    w.cell? ⟨g, i * 2, none⟩ = some (.pointer (some ⟨x.b1, 0, none⟩)) ∧ w.cell? ⟨g, i * 2 + 1, none⟩ = some (.pointer (some ⟨x.b2, 0, none⟩)) ∧ w.frozen? ⟨g, i * 2, none⟩ = false ∧ w.frozen? ⟨g, i * 2 + 1, none⟩ = false := by
  obtain ⟨cs, hb⟩ := own_blk h.row (g := g) rfl
  have hc := World.ownsRow.cells (g := g) h.row rfl
  have hi := (List.getElem?_eq_some_iff.1 hx).1
  have e0 : (tflat l)[i * 2]? = some (.pointer (some ⟨x.b1, 0, none⟩)) ∧ (tflat l)[i * 2 + 1]? = some (.pointer (some ⟨x.b2, 0, none⟩)) := by
    clear hc hb h
    induction l generalizing i with
    | nil => simp at hi
    | cons a r ih =>
      have ef : tflat (a :: r) = Value.pointer (some ⟨a.b1, 0, none⟩) :: Value.pointer (some ⟨a.b2, 0, none⟩) :: tflat r := rfl
      rw [ef]
      cases i with
      | zero =>
        simp only [List.getElem?_cons_zero, Option.some.injEq] at hx
        subst hx
        exact ⟨rfl, rfl⟩
      | succ i =>
        have := ih (i := i) (by simpa using hx) (by simpa using hi)
        have q : (i + 1) * 2 = i * 2 + 2 := by omega
        rw [q]
        simpa using this
  have hadd : ∀ j, (⟨g, 0, none⟩ : Addr).add j = ⟨g, j, none⟩ := fun j => by unfold Addr.add; split <;> simp_all
  refine ⟨?_, ?_, hb.free _, hb.free _⟩
  · have := hc _ _ e0.1; rwa [hadd] at this
  · have := hc _ _ e0.2; rwa [hadd] at this
set_option maxHeartbeats 4000000 in
set_option maxRecDepth 100000 in
theorem plays_new {w wr : World} {l : List Two} {S : Nat → Nat → Prop} {g6 c6 go gp m : Nat} {st : Int × Int × Int × Int} {x : Two} (H : Hid (PL w l S g6 c6 go gp m st x wr)) (h4 : l.length ≤ 4) (hkd : st.1 = 2) (u0 u1 u2 u3 u4 u5 u7 u8 u9 u10 u11 u12 u13 u17 u18 u19 u20 u21 u22 u23 u24 u25 u26 u27 u28 u29 u30 u31 u32 u33 u34 u35 u36 u37 u38 u39 u40 u41 u42 u43 u44 u45 u46 u47 u48 u49 u50 u51 u52 u53 u54 u55 u56 u57 u58 u59 u60 u61 u62 u63 u64 u65 u66 u67 u68 u69 u70 u71 u72 u73 u74 u75 u76 u78 u79 u80 u81 u82 u83 u84 u85 u86 u87 u88 u89 u90 u91 u92 u93 u94 u95 u96 u97 u98 u99 u100 u101 u102 u103 u104 u105 u106 u107 u108 u109 u110 u111 u112 u113 u114 u115 u116 u117 u118 u119 u120 u121 u122 u123 u124 u125 u126 u127 u128 u129 u130 u131 u132 u133 u134 u135 u136 u137 u138 u139 u140 u141 u142 u143 u144 u145 u146 u147 u148 u149 u150 u151 u152 u153 u154 u155 u156 u157 u158 u159 u160 u161 : Value) {K : Act → World → Prop} {Q : Exit → Act → World → Prop}
    (hK : ∀ (x4 x17 x18 x19 x20 x21 x22 x23 x24 x25 x78 x79 x80 x81 x82 x83 x84 x85 x86 x87 x88 x89 x90 x91 x92 x93 x94 x95 x96 x97 x98 x99 x100 x101 x102 x103 x104 x105 x106 x107 x108 x109 x110 x111 x112 x113 x114 x115 x116 x117 x118 x119 x120 x121 x122 x123 x124 x125 x126 x127 x128 x129 x130 x131 x132 x133 x134 x135 x136 x137 x138 x139 x140 x141 x142 x143 x144 x145 x146 x147 x148 : Value) (g6' c6' n' : Nat) (wx : World), Hid (PEnd w g6' c6' n' wx) → K ⟨#[u0, u1, u2, u3, x4, u5, .slice (some ⟨g6', 0, none⟩) n' c6', u7, u8, u9, u10, u11, u12, u13, .pointer (some ⟨go, 0, none⟩), .int .i64 (m : Int), .pointer (some ⟨gp, 0, none⟩), x17, x18, x19, x20, x21, x22, x23, x24, x25, u26, u27, u28, u29, u30, u31, u32, u33, u34, u35, u36, u37, u38, u39, u40, u41, u42, u43, u44, u45, u46, u47, u48, u49, u50, u51, u52, u53, u54, u55, u56, u57, u58, u59, u60, u61, u62, u63, u64, u65, u66, u67, u68, u69, u70, u71, u72, u73, u74, u75, u76, .int .i64 st.1, x78, x79, x80, x81, x82, x83, x84, x85, x86, x87, x88, x89, x90, x91, x92, x93, x94, x95, x96, x97, x98, x99, x100, x101, x102, x103, x104, x105, x106, x107, x108, x109, x110, x111, x112, x113, x114, x115, x116, x117, x118, x119, x120, x121, x122, x123, x124, x125, x126, x127, x128, x129, x130, x131, x132, x133, x134, x135, x136, x137, x138, x139, x140, x141, x142, x143, x144, x145, x146, x147, x148, u149, u150, u151, u152, u153, u154, u155, u156, u157, u158, u159, u160, u161], []⟩ wx) :
    Code.wp Try.prog plSwitch (Exit.then K Q) ⟨#[u0, u1, u2, u3, u4, u5, .slice (some ⟨g6, 0, none⟩) l.length c6, u7, u8, u9, u10, u11, u12, u13, .pointer (some ⟨go, 0, none⟩), .int .i64 (m : Int), .pointer (some ⟨gp, 0, none⟩), u17, u18, u19, u20, u21, u22, u23, u24, u25, u26, u27, u28, u29, u30, u31, u32, u33, u34, u35, u36, u37, u38, u39, u40, u41, u42, u43, u44, u45, u46, u47, u48, u49, u50, u51, u52, u53, u54, u55, u56, u57, u58, u59, u60, u61, u62, u63, u64, u65, u66, u67, u68, u69, u70, u71, u72, u73, u74, u75, u76, .int .i64 st.1, u78, u79, u80, u81, u82, u83, u84, u85, u86, u87, u88, u89, u90, u91, u92, u93, u94, u95, u96, u97, u98, u99, u100, u101, u102, u103, u104, u105, u106, u107, u108, u109, u110, u111, u112, u113, u114, u115, u116, u117, u118, u119, u120, u121, u122, u123, u124, u125, u126, u127, u128, u129, u130, u131, u132, u133, u134, u135, u136, u137, u138, u139, u140, u141, u142, u143, u144, u145, u146, u147, u148, u149, u150, u151, u152, u153, u154, u155, u156, u157, u158, u159, u160, u161], []⟩ wr := by
  conv => arg 2; whnf
  have HKK := Lib.hid hK
  clear hK
  have hg1 : (st.1 == 1) = false := by rw [hkd]; rfl
  have hg2 : (st.1 == 2) = true := by rw [hkd]; rfl
  clear hkd
  have M1 := made_any st.2.2.1 wr
  have x2 : wr.cell? ⟨go, 2, none⟩ = some (.int .i64 st.2.2.1) := H.out.stp.cell 2
  have hm := H.out.m
  go_wp2_with fail
  refine M1.mono ?_
  rintro e w2 ⟨is, p, q, rfl, b2, hP⟩
  have HP := Lib.hid hP
  have HB := Lib.hid b2
  have HF := Lib.hid (H.out.fam.below (below_new b2 (.cells #[.pointer p, .pointer q] 27)))
  have BX := Lib.hid (Blk.new w2 27 #[.pointer p, .pointer q])
  obtain ⟨p0, p1, _, _⟩ := BX.out.cells2
  obtain ⟨q0, q1, q2, q3⟩ := HF.out.cells H.out.at_
  have hz : wr.heap.size ≤ w2.heap.size := b2.size
  clear M1 x2 hP b2
  cases is with
  | false =>
    go_wp2_with fail
    exact HKK.out _ _ _ _ _ _ _ _ _ _ _ _ _ _ _ _ _ _ _ _ _ _ _ _ _ _ _ _ _ _ _ _ _ _ _ _ _ _ _ _ _ _ _ _ _ _ _ _ _ _ _ _ _ _ _ _ _ _ _ _ _ _ _ _ _ _ _ _ _ _ _ _ _ _ _ _ _ _ _ _ _ _ _ _ _ (Lib.hid ⟨l, S, rfl, by omega, h4, HF.out⟩)
  | true =>
    obtain ⟨b1, b2, rfl, rfl, P⟩ := HP.out rfl
    obtain ⟨SX, PX, nX, bX⟩ := P.pairS
    have hg6 : g6 < wr.heap.size := own_lt H.out.fam.row rfl
    have hlt : ∀ j : Nat, j < l.length → ∀ k, S j k → k < wr.heap.size := fun j hj => (H.out.fam.ent j l[j] (List.getElem?_eq_getElem hj)).lt
    have hw0 := H.out.fam.bel.size
    have HE := Lib.hid (show PEnd w g6 c6 l.length _ from ⟨l.set m ⟨b1, b2, st.2.2.1 - 1, Fit.zero⟩, _, List.length_set, by omega, h4, HF.out.put hm (PX.below (below_new (Below.refl _ _) (.cells #[.pointer (some ⟨b1, 0, none⟩), .pointer (some ⟨b2, 0, none⟩)] 27))) (fun k hk => by have := nX k hk; omega) (fun i hi k hk hs => by have := nX k hk; have := hlt i hi k hs; omega) (fun hk => by have := nX _ hk; omega)⟩)
    clear P PX nX bX hlt
    go_wp2_with fail
    exact HKK.out _ _ _ _ _ _ _ _ _ _ _ _ _ _ _ _ _ _ _ _ _ _ _ _ _ _ _ _ _ _ _ _ _ _ _ _ _ _ _ _ _ _ _ _ _ _ _ _ _ _ _ _ _ _ _ _ _ _ _ _ _ _ _ _ _ _ _ _ _ _ _ _ _ _ _ _ _ _ _ _ _ _ _ _ _ HE
end Go.Proofs.Ytanhhgifcolfaaa
