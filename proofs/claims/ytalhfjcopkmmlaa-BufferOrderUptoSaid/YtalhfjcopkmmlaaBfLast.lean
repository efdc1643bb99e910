/-
  BufferLast: the walk.
-/
import Derived.Test.YtalhfjcopkmmlaaBfArg
import Derived.Test.YtalhfjcopkmmlaaBfLastP
namespace Go.Proofs.Ytalhfjcopkmmlaa
open Go.RowKit
set_option linter.unusedVariables false
set_option linter.unusedSimpArgs false

/-- So many entries are put. -/
structure PutSoFar (W : World) (b : Nat) (L : List Ent) (x : Value) (wr : World) (i : Nat) (v : Value) : Prop where
  le : i ≤ L.length
  at_ : x = .int .i64 i
  mine : Mine W b (L.length + 1 : Nat) (bufOf (L.length + 1) (L.take i)) v wr
def PutsTo (W : World) (b : Nat) (L : List Ent) (x : Value) (wr : World) : Prop := ∃ i v, PutSoFar W b L x wr i v

/-- Which way an entry goes: no tombstone; one with the value 0; one with another. -/
theorem ent_ways (k x : Int) (z : Bool) : (z = false ∧ bad (k, x, z) = false) ∨ (z = true ∧ (x == 0) = true ∧ bad (k, x, z) = false) ∨ (z = true ∧ (x == 0) = false ∧ bad (k, x, z) = true) := by
  cases z
  · exact .inl ⟨rfl, rfl⟩
  · by_cases h : x = 0
    · exact .inr (.inl ⟨rfl, by simpa using h, by simp [bad, h]⟩)
    · exact .inr (.inr ⟨rfl, by simpa using h, by simp [bad, h]⟩)

/-- The inner loop: of a key the last entry so far, in a variable of its own. -/
structure LastSoFar (w5 : World) (N : Nat) (key : Int) (L : List Ent) (x11 x12 : Value) (wr : World) (k : Nat) : Prop where
  le : k ≤ L.length
  at_ : x12 = .int .i64 k
  found : x11 = .bool (lastOf key (L.take k)).isSome
  blk : Blk wr N 27 #[.int .u64 ((lastOf key (L.take k)).getD (0, 0, false)).1, .int .u64 ((lastOf key (L.take k)).getD (0, 0, false)).2.1, .bool ((lastOf key (L.take k)).getD (0, 0, false)).2.2]
  bel : Below w5.heap.size w5 wr
def LastsTo (w5 : World) (N : Nat) (key : Int) (L : List Ent) (x11 x12 : Value) (wr : World) : Prop := ∃ k, LastSoFar w5 N key L x11 x12 wr k
def UpTo (w5 : World) (n : Nat) (x : Value) (wr : World) : Prop := ∃ i : Nat, i ≤ n ∧ x = .int .i64 i ∧ Below w5.heap.size w5 wr
def PutUpTo (w5 : World) (key : Int) (L : List Ent) (x16 x17 : Value) (wr : World) : Prop := ∃ k : Nat, k ≤ L.length ∧ x17 = .int .i64 k ∧ x16 = .bool (putSo key (L.take k)) ∧ Below w5.heap.size w5 wr
theorem last_other {key : Int} {L : List Ent} {k : Nat} {e : Ent} (hk : k < L.length) (he : L[k] = e) (h : (e.1 == key) = false ∨ bad e = true) : lastOf key (L.take (k + 1)) = lastOf key (L.take k) := by
  rw [lastOf_take key L hk, he, lastStep, if_neg]
  rintro ⟨h1, h2⟩
  rcases h with h | h
  · simp [h1] at h
  · rw [h2] at h; cases h
theorem last_this {key : Int} {L : List Ent} {k : Nat} {e : Ent} (hk : k < L.length) (he : L[k] = e) (h : (e.1 == key) = true) (hb : bad e = false) : lastOf key (L.take (k + 1)) = some e := by
  rw [lastOf_take key L hk, he, lastStep, if_pos ⟨by simpa using h, hb⟩]
theorem LastSoFar.skip {w5 : World} {N : Nat} {key : Int} {L : List Ent} {x11 x12 : Value} {wr : World} {k : Nat} {e : Ent} (h : LastSoFar w5 N key L x11 x12 wr k) (hk : k < L.length) (he : L[k] = e) (hh : (e.1 == key) = false ∨ bad e = true) (n : Nat) {x12' : Value} (hx : x12' = .int .i64 (k + 1 : Nat)) :
    LastSoFar w5 N key L x11 x12' (wr.drewN n) (k + 1) :=
  ⟨hk, hx, by rw [last_other hk he hh]; exact h.found, by rw [last_other hk he hh]; exact h.blk.drewN n, drewN_below h.bel n⟩
theorem LastSoFar.take {w5 : World} {N : Nat} {key : Int} {L : List Ent} {x11 x12 : Value} {wr : World} {k : Nat} {kk x : Int} {z : Bool} (h : LastSoFar w5 N key L x11 x12 wr k) (hN : w5.heap.size ≤ N) (hk : k < L.length) (he : L[k] = (kk, x, z)) (hh : (kk == key) = true) (hb : bad (kk, x, z) = false) (n : Nat) {x12' : Value} (hx : x12' = .int .i64 (k + 1 : Nat)) :
    LastSoFar w5 N key L (.bool true) x12' ((((wr.setCell ⟨N, 0, none⟩ (.int .u64 kk)).setCell ⟨N, 1, none⟩ (.int .u64 x)).setCell ⟨N, 2, none⟩ (.bool z)).drewN n) (k + 1) :=
  ⟨hk, hx, by rw [last_this hk he hh hb]; rfl, by rw [last_this hk he hh hb]; exact h.blk.set3.drewN n, drewN_below (below_set3 h.bel hN) n⟩
theorem putSo_skip {key : Int} {L : List Ent} {k : Nat} {e : Ent} (hk : k < L.length) (he : L[k] = e) (h : (e.1 == key) = false ∨ bad e = true) : putSo key (L.take (k + 1)) = putSo key (L.take k) := by
  rw [putSo_take key L hk, he]
  rcases h with h | h <;> simp [h]
theorem putSo_yes {key : Int} {L : List Ent} {k : Nat} {e : Ent} (hk : k < L.length) (he : L[k] = e) (h : (e.1 == key) = true) (hb : bad e = false) : putSo key (L.take (k + 1)) = true := by
  rw [putSo_take key L hk, he, h, hb]; simp
theorem putSo_on {key : Int} {L : List Ent} {k : Nat} (hk : k < L.length) (h : putSo key (L.take k) = true) : putSo key (L.take (k + 1)) = true := by
  rw [putSo_take key L hk, h]; rfl
theorem key_ways (kk x key : Int) (z : Bool) : (kk == key) = false ∨ (kk == key) = true ∧ (z = false ∧ bad (kk, x, z) = false ∨ z = true ∧ (x == 0) = true ∧ bad (kk, x, z) = false ∨ z = true ∧ (x == 0) = false ∧ bad (kk, x, z) = true) := by
  by_cases h : kk = key
  · exact .inr ⟨by simpa using h, ent_ways kk x z⟩
  · exact .inl (by simpa using h)

attribute [local go_sem high] eqEnt
set_option maxRecDepth 100000 in
set_option maxHeartbeats 4000000 in
theorem last_walk (A : Option Addr) (c : Nat) (L : List Ent) (hlen : L.length ≤ 1048576) (W : World) (hL : Arg W A L) :
    Calls Try.prog 4 #[.slice A L.length c] W fun e w' => e = .returned (.bool true) ∧ Below W.heap.size W w' := by
  go_enter Try.func4, Try.ntmps4
  go_wp2_with (go_at_call 6; refine (shown_any _).mono ?_; rintro e w1 ⟨rfl, hb1⟩)
  refine (new_mine _ (by omega) (by omega) _).mono ?_
  rintro e w2 ⟨rfl, M2⟩
  have M2 := M2.base hb1
  generalize w1.heap.size = b at M2
  go_wp2_with fail
  go_loopw [6] (fun x wr => PutsTo W b L x wr) (fun x _ => L.length - (intOf x).toNat)
  case atStart => exact ⟨0, _, Nat.zero_le _, rfl, M2⟩
  case round =>
    obtain ⟨i, v, hi, rfl, M⟩ := hrel
    have LI := LInv.take (most := L.length + 1) L (Nat.lt_succ_self _) i hi
    by_cases hlt : i < L.length
    · obtain ⟨b0, o, rfl, hb0, c0, c1, c2⟩ := hL.at hlt
      have hp := putL_code (most := L.length + 1) (e := L[i]) (show (bufOf (L.length + 1) (L.take i)).length < L.length + 1 by have := LI.le; rw [List.length_take] at this; omega)
      have hlb : (bufOf (L.length + 1) (L.take i)).length + 1 ≤ 1048577 := by have := LI.le; rw [List.length_take] at this; omega
      have hs := bufOf_take (L.length + 1) L hlt
      have HL := Lib.hid hL
      clear hL
      have HLI := Lib.hid LI
      clear LI
      rcases hLi : L[i] with ⟨k, x, z⟩
      rw [hLi] at c0 c1 c2 hp hs
      have HX := Lib.hid hLi
      clear hLi
      simp only [] at c0 c1 c2
      have PM : ∀ cc, (putL (L.length + 1) (bufOf (L.length + 1) (L.take i)) (k, x, z)).2 = cc → _ := fun cc hcc => put_mine (es' := bufOf (L.length + 1) (L.take (i + 1))) (c := cc) (by rw [hs, ← hcc]) HLI.out.up (by omega) M
      have HS := Lib.hid hs
      clear hs
      rcases ent_ways k x z with ⟨rfl, hbad⟩ | ⟨rfl, hx, hbad⟩ | ⟨rfl, hx, hbad⟩
      all_goals
        have d0 := (M.bel.cell (p := ⟨b0, o + i * 3, none⟩) hb0).trans c0
        have d1 := (M.bel.cell (p := ⟨b0, o + i * 3 + 1, none⟩) hb0).trans c1
        have d2 := (M.bel.cell (p := ⟨b0, o + i * 3 + 2, none⟩) hb0).trans c2
        first | (have P := PM 0 (by rw [hp, hbad]; rfl)) | (have P := PM 31 (by rw [hp, hbad]; rfl))
        clear PM hp hbad
        go_wp2_with fail
        refine P.mono ?_
        rintro e w' ⟨rfl, v', M', -, -⟩
        have e1 := (M'.bel.cell (p := ⟨b0, o + i * 3 + 1, none⟩) hb0).trans c1
        have e2 := (M'.bel.cell (p := ⟨b0, o + i * 3 + 2, none⟩) hb0).trans c2
        clear d0 d1 d2 P
        go_wp2_with fail
        go_roundw
        case rel => exact ⟨i + 1, _, by omega, by go_num, M'⟩
        case measure => simp [intOf]; omega
    · obtain rfl : i = L.length := by omega
      rw [List.take_of_length_le (Nat.le_refl _)] at M LI
      have hmost : (bufOf (L.length + 1) L).length ≤ 1048576 := by have := LI.le; omega
      have hfull : ((((bufOf (L.length + 1) L).length : Nat) : Int) == ((L.length + 1 : Nat) : Int)) = false := beq_eq_false_iff_ne.2 (by have := LI.le; omega)
      have HF := Lib.hid hfull
      clear hfull
      generalize bufOf (L.length + 1) L = es at M LI hmost HF
      have HLI := Lib.hid LI
      clear LI
      go_wp2_with fail
      refine (list_any _ _ _ _ (by omega) _ M.buf).mono ?_
      rintro e w5 ⟨A5, c5, rfl, R5, hb5, hn5⟩
      have M5 := M.below hb5
      clear hn5 M hb5
      go_wp2_with fail
      go_loopw [9] (fun x wr => UpTo w5 es.length x wr) (fun x _ => es.length - (intOf x).toNat)
      case atStart => exact ⟨0, Nat.zero_le _, rfl, Below.refl _ _⟩
      case round =>
        obtain ⟨i, hi, rfl, hbi⟩ := hrel
        have MI := M5.below hbi
        have RI := R5.below hbi
        by_cases hlt : i < es.length
        · obtain ⟨g5, cap5, hv5, _⟩ := R5.form.resolve_left (fun h => by rw [h.2] at hlt; simp at hlt)
          injection hv5 with hA5 _ hc5
          subst hA5 hc5
          obtain ⟨wo, rfl⟩ : ∃ wo : World, wo = wr := ⟨_, rfl⟩
          go_wp2_with fail
          go_loopw [11, 12] (fun x11 x12 wr => LastsTo w5 wo.heap.size es[i].1 L x11 x12 wr) (fun _ x12 _ => L.length - (intOf x12).toNat)
          case atStart => exact ⟨0, Nat.zero_le _, rfl, rfl, Blk.new _ _ _, below_new hbi _⟩
          case round =>
            obtain ⟨k, H⟩ := hrel
            obtain rfl := H.at_
            obtain rfl := H.found
            have hk := H.le
            have hN := hbi.size
            have MK := M5.below H.bel
            have RK := R5.below H.bel
            obtain ⟨s0, s1, s2⟩ := RK.cells hlt
            by_cases hkl : k < L.length
            · obtain ⟨b0, o, rfl, hb0, c0, c1, c2⟩ := hL.at hkl
              have HL := Lib.hid hL
              clear hL
              have d0 := (MK.bel.cell (p := ⟨b0, o + k * 3, none⟩) hb0).trans c0
              have d1 := (MK.bel.cell (p := ⟨b0, o + k * 3 + 1, none⟩) hb0).trans c1
              have d2 := (MK.bel.cell (p := ⟨b0, o + k * 3 + 2, none⟩) hb0).trans c2
              clear c0 c1 c2
              obtain ⟨q0, q1, q2, f0, f1, f2⟩ := Blk.cells3 H.blk
              have b1 : (0 : Int) ≤ (k : Int) := by omega
              have b2 : (k : Int) < (L.length : Int) := by omega
              have b3 : (0 : Int) ≤ (i : Int) := by omega
              have b4 : (i : Int) < (es.length : Int) := by omega
              rcases hLk : L[k] with ⟨kk, x, z⟩
              rw [hLk] at d0 d1 d2
              have HX := Lib.hid hLk
              clear hLk
              simp only [] at d0 d1 d2
              rcases key_ways kk x es[i].1 z with hkey | ⟨hkey, ⟨rfl, hbad⟩ | ⟨rfl, hx, hbad⟩ | ⟨rfl, hx, hbad⟩⟩
              · go_wp2_with fail
                go_quiet (fail)
                go_wp2_with fail
                go_roundw
                case rel => first | exact ⟨_, H.skip hkl HX.out (.inl hkey) _ (by go_num)⟩ | ((repeat apply Exists.intro); exact ⟨⟨_, H.skip hkl HX.out (.inl hkey) _ (by go_num)⟩, rfl⟩)
                case measure => simp [intOf]; omega
              · have HB := Lib.hid hbad
                clear hbad
                go_wp2_with fail
                go_quiet (fail)
                go_wp2_with fail
                go_roundw
                case rel => first | exact ⟨_, H.take hN hkl HX.out hkey HB.out _ (by go_num)⟩ | ((repeat apply Exists.intro); exact ⟨⟨_, H.take hN hkl HX.out hkey HB.out _ (by go_num)⟩, rfl⟩)
                case measure => simp [intOf]; omega
              · have HB := Lib.hid hbad
                clear hbad
                go_wp2_with fail
                go_quiet (fail)
                go_wp2_with fail
                go_roundw
                case rel => first | exact ⟨_, H.take hN hkl HX.out hkey HB.out _ (by go_num)⟩ | ((repeat apply Exists.intro); exact ⟨⟨_, H.take hN hkl HX.out hkey HB.out _ (by go_num)⟩, rfl⟩)
                case measure => simp [intOf]; omega
              · have HB := Lib.hid hbad
                clear hbad
                go_wp2_with fail
                go_quiet (fail)
                go_wp2_with fail
                go_roundw
                case rel => first | exact ⟨_, H.skip hkl HX.out (.inr HB.out) _ (by go_num)⟩ | ((repeat apply Exists.intro); exact ⟨⟨_, H.skip hkl HX.out (.inr HB.out) _ (by go_num)⟩, rfl⟩)
                case measure => simp [intOf]; omega
            · obtain rfl : k = L.length := by omega
              have hl := HLI.out.last hlt
              have HB := H.blk
              rw [List.take_of_length_le (Nat.le_refl _), hl] at HB
              simp only [Option.getD_some] at HB
              obtain ⟨q0, q1, q2, f0, f1, f2⟩ := Blk.cells3 HB
              have hs1 : (lastOf es[i].1 (L.take L.length)).isSome = true := by rw [List.take_of_length_le (Nat.le_refl _), hl]; rfl
              have hs2 : (lastOf es[i].1 L).isSome = true := by rw [hl]; rfl
              have HLL := Lib.hid hl
              clear hl
              have b3 : (0 : Int) ≤ (i : Int) := by omega
              have b4 : (i : Int) < (es.length : Int) := by omega
              have hbk := H.bel
              have HH := Lib.hid H
              have HB := Lib.hid HB
              clear H
              cases i with
              | zero =>
                go_wp2_with fail
                go_quiet (fail)
                go_wp2_with fail
                go_roundw
                case rel => first | exact ⟨1, by omega, by go_num, drewN_below hbk _⟩ | ((repeat apply Exists.intro); exact ⟨⟨1, by omega, by go_num, drewN_below hbk _⟩, rfl⟩)
                case measure => simp [intOf]; omega
              | succ j =>
                have hup := HLI.out.up.lt (i := j) (j := j + 1) (by omega) hlt
                obtain ⟨p0, p1, p2⟩ := RK.cells (i := j) (by omega)
                have hge : decide (es[j + 1].1 ≤ es[j].1) = false := decide_eq_false (by omega)
                have b5 : IntKind.i64.wrap (((j + 1 : Nat) : Int) - 1) = (j : Int) := by rw [IntWalk.i64_in _ (by omega)]; omega
                have b6 : (0 : Int) ≤ (j : Int) := by omega
                have b7 : (j : Int) < (es.length : Int) := by omega
                have b8 : (((j + 1 : Nat) : Int)) = (j : Int) + 1 := by omega
                go_wp2_with fail
                go_quiet (fail)
                go_wp2_with fail
                go_roundw
                case rel => first | exact ⟨j + 2, by omega, by go_num, drewN_below hbk _⟩ | ((repeat apply Exists.intro); exact ⟨⟨j + 2, by omega, by go_num, drewN_below hbk _⟩, rfl⟩)
                case measure => simp [intOf]; omega
        · go_wp2_with fail
          clear RI
          obtain ⟨w6, rfl⟩ : ∃ w6 : World, w6 = wr := ⟨_, rfl⟩
          go_loopw [13] (fun x wr => UpTo w6 L.length x wr) (fun x _ => L.length - (intOf x).toNat)
          case atStart => exact ⟨0, Nat.zero_le _, rfl, Below.refl _ _⟩
          case round =>
            obtain ⟨m, hm, rfl, hbm⟩ := hrel
            have MM := MI.below hbm
            by_cases hml : m < L.length
            · obtain ⟨b0, o, rfl, hb0, c0, c1, c2⟩ := hL.at hml
              have hLL := hL
              have d0 := (MM.bel.cell (p := ⟨b0, o + m * 3, none⟩) hb0).trans c0
              have G := get_any b _ es v L[m].1 HLI.out.up (by omega) wr MM.buf
              have hth := HLI.out.there L[m].1
              generalize hkey : L[m].1 = key at G hth d0 c0
              have HKEY := Lib.hid hkey
              clear hkey
              go_wp2_with fail
              refine G.mono ?_
              rintro e w7 ⟨rfl, hb7⟩
              have M7 := MM.below hb7
              have hb67 := below_next hbm hb7
              have HTH := Lib.hid hth
              have HL := Lib.hid hL
              clear hth G d0 hL
              obtain ⟨u0, u1, u2, huu⟩ : ∃ (u0 u1 : Int) (u2 : Bool), (getL es key).1 = (u0, u1, u2) := ⟨_, _, _, rfl⟩
              have hu2 : (getL es key).2 = there key es := by unfold getL; split <;> simp_all
              have hu0 : there key es = true → u0 = key := fun h => by
                have : (getL es key).1 = es[rk key es]'(there_lt h) := by unfold getL; rw [if_pos h, List.getElem?_eq_getElem (there_lt h)]; rfl
                rw [huu] at this
                have h2 := there_key h
                rw [← this] at h2; exact h2
              rw [huu, hu2]
              have HU0 := Lib.hid hu0
              clear huu hu2 hu0
              simp only [ecells, List.toArray]
              go_wp2_with fail
              obtain ⟨w8, hw8⟩ : ∃ w8 : World, w8 = w7.alloc (.cells #[.int .u64 u0, .int .u64 u1, .bool u2] 27) := ⟨_, rfl⟩
              rw [← hw8]
              have NB : Blk w8 w7.heap.size 27 #[.int .u64 u0, .int .u64 u1, .bool u2] := by rw [hw8]; exact Blk.new _ _ _
              have hb8 : Below w6.heap.size w6 w8 := by rw [hw8]; exact below_new hb67 _
              have M8 : Mine W b (L.length + 1 : Nat) es v w8 := by rw [hw8]; exact M7.below (below_new (Below.refl _ _) _)
              clear hw8
              go_loopw [16, 17] (fun x16 x17 wr => PutUpTo w8 key L x16 x17 wr) (fun _ x17 _ => L.length - (intOf x17).toNat)
              case atStart => exact ⟨0, Nat.zero_le _, rfl, rfl, Below.refl _ _⟩
              case round =>
                obtain ⟨k, hk, rfl, rfl, hbk⟩ := hrel
                have MK := M8.below hbk
                have d0 := (MK.bel.cell (p := ⟨b0, o + m * 3, none⟩) hb0).trans c0
                by_cases hkl : k < L.length
                · obtain ⟨b0', o', hA', hb0', a0, a1, a2⟩ := HL.out.at hkl
                  injection hA' with hA'
                  injection hA' with hA1 hA2 _
                  subst hA1 hA2
                  have d3 := (MK.bel.cell (p := ⟨b0, o + k * 3, none⟩) hb0).trans a0
                  have d4 := (MK.bel.cell (p := ⟨b0, o + k * 3 + 1, none⟩) hb0).trans a1
                  have d5 := (MK.bel.cell (p := ⟨b0, o + k * 3 + 2, none⟩) hb0).trans a2
                  clear a0 a1 a2 c0 c1 c2
                  have b1 : (0 : Int) ≤ (k : Int) := by omega
                  have b2 : (k : Int) < (L.length : Int) := by omega
                  have b3 : (0 : Int) ≤ (m : Int) := by omega
                  have b4 : (m : Int) < (L.length : Int) := by omega
                  rcases hLk : L[k] with ⟨kk, x, z⟩
                  rw [hLk] at d3 d4 d5
                  have HX := Lib.hid hLk
                  clear hLk
                  simp only [] at d3 d4 d5
                  by_cases hso : putSo key (L.take k) = true
                  · have V := Lib.hid (putSo_on hkl hso)
                    go_wp2_with fail
                    go_quiet (fail)
                    go_wp2_with fail
                    go_roundw
                    case rel => first | exact ⟨k + 1, hkl, by go_num, by rw [V.out], drewN_below hbk _⟩ | ((repeat apply Exists.intro); exact ⟨⟨k + 1, hkl, by go_num, by rw [V.out], drewN_below hbk _⟩, rfl⟩)
                    case measure => simp [intOf]; omega

                  have hso : putSo key (L.take k) = false := by simpa using hso
                  rcases key_ways kk x key z with hkey | ⟨hkey, ⟨rfl, hbad⟩ | ⟨rfl, hx, hbad⟩ | ⟨rfl, hx, hbad⟩⟩
                  · have V := Lib.hid (putSo_skip hkl HX.out (.inl hkey))
                    go_wp2_with fail
                    go_quiet (fail)
                    go_wp2_with fail
                    go_roundw
                    case rel => first | exact ⟨k + 1, hkl, by go_num, by rw [V.out, hso], drewN_below hbk _⟩ | ((repeat apply Exists.intro); exact ⟨⟨k + 1, hkl, by go_num, by rw [V.out, hso], drewN_below hbk _⟩, rfl⟩)
                    case measure => simp [intOf]; omega

                  · have V := Lib.hid (putSo_yes hkl HX.out hkey hbad)
                    clear hbad
                    go_wp2_with fail
                    go_quiet (fail)
                    go_wp2_with fail
                    go_roundw
                    case rel => first | exact ⟨k + 1, hkl, by go_num, by rw [V.out], drewN_below hbk _⟩ | ((repeat apply Exists.intro); exact ⟨⟨k + 1, hkl, by go_num, by rw [V.out], drewN_below hbk _⟩, rfl⟩)
                    case measure => simp [intOf]; omega

                  · have V := Lib.hid (putSo_yes hkl HX.out hkey hbad)
                    clear hbad
                    go_wp2_with fail
                    go_quiet (fail)
                    go_wp2_with fail
                    go_roundw
                    case rel => first | exact ⟨k + 1, hkl, by go_num, by rw [V.out], drewN_below hbk _⟩ | ((repeat apply Exists.intro); exact ⟨⟨k + 1, hkl, by go_num, by rw [V.out], drewN_below hbk _⟩, rfl⟩)
                    case measure => simp [intOf]; omega

                  · have V := Lib.hid (putSo_skip (key := key) hkl HX.out (.inr hbad))
                    clear hbad
                    go_wp2_with fail
                    go_quiet (fail)
                    go_wp2_with fail
                    go_roundw
                    case rel => first | exact ⟨k + 1, hkl, by go_num, by rw [V.out, hso], drewN_below hbk _⟩ | ((repeat apply Exists.intro); exact ⟨⟨k + 1, hkl, by go_num, by rw [V.out, hso], drewN_below hbk _⟩, rfl⟩)
                    case measure => simp [intOf]; omega

                · obtain rfl : k = L.length := by omega
                  obtain ⟨q0, q1, q2, f0, f1, f2⟩ := Blk.cells3 (NB.below hbk)
                  have b3 : (0 : Int) ≤ (m : Int) := by omega
                  have b4 : (m : Int) < (L.length : Int) := by omega
                  have e1 := HTH.out
                  have e2 : putSo key (L.take L.length) = there key es := by rw [List.take_of_length_le (Nat.le_refl _), e1]; rfl
                  have e3 : putSo key L = there key es := by rw [e1]; rfl
                  clear e1 c0 c1 c2
                  by_cases ht : there key es = true
                  · rw [ht] at e2 e3
                    obtain rfl := HU0.out ht
                    rw [ht, e2]
                    clear ht e2 e3
                    go_wp2_with fail
                    go_quiet (fail)
                    go_wp2_with fail
                    go_roundw
                    case rel => first | exact ⟨m + 1, hml, by go_num, drewN_below (below_next hb8 hbk) _⟩ | ((repeat apply Exists.intro); exact ⟨⟨m + 1, hml, by go_num, drewN_below (below_next hb8 hbk) _⟩, rfl⟩)
                    case measure => simp [intOf]; omega

                  · have ht : there key es = false := by simpa using ht
                    rw [ht] at e2 e3
                    rw [ht, e2]
                    clear ht e2 e3
                    go_wp2_with fail
                    go_quiet (fail)
                    go_wp2_with fail
                    go_roundw
                    case rel => first | exact ⟨m + 1, hml, by go_num, drewN_below (below_next hb8 hbk) _⟩ | ((repeat apply Exists.intro); exact ⟨⟨m + 1, hml, by go_num, drewN_below (below_next hb8 hbk) _⟩, rfl⟩)
                    case measure => simp [intOf]; omega

            · obtain rfl : m = L.length := by omega
              go_wp2_with fail
              refine (len_any _ _ _ _ _ MM.buf).mono ?_
              rintro e w9 ⟨rfl, rfl⟩
              go_wp2_with fail
              refine (full_any _ _ _ _ _ MM.buf).mono ?_
              rintro e w9 ⟨rfl, n, rfl⟩
              rw [HF.out]
              go_wp2_with fail
              go_ret
              exact ⟨rfl, drewN_below MM.bel n⟩
end Go.Proofs.Ytalhfjcopkmmlaa
