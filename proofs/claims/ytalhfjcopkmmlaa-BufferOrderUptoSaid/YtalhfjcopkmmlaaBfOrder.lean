/-
  BufferOrder: the walk.
-/
import Derived.Test.YtalhfjcopkmmlaaBfLast
import Derived.Test.YtalhfjcopkmmlaaBfOrderP
import Derived.Deep.CutBlock
namespace Go.Proofs.Ytalhfjcopkmmlaa
open Go.RowKit
set_option linter.unusedVariables false
set_option linter.unusedSimpArgs false

/-- A row of entries made since world W, in a block of its own. -/
structure MyRow (W : World) (g cap : Nat) (es : List Ent) (wr : World) : Prop where
  row : Row wr (.slice (some ⟨g, 0, none⟩) es.length cap) es
  lo : W.heap.size ≤ g
  bel : Below W.heap.size W wr
/-- The turned list: the same entries, in some order. -/
def Turned (w0 : World) (g12 cap12 : Nat) (ow : List Ent) (wx : World) : Prop := ∃ tl : List Ent, tl.Perm ow ∧ MyRow w0 g12 cap12 tl wx
structure SwapSoFar (w0 : World) (n g12 cap12 : Nat) (ow : List Ent) (x13 : Value) (wx : World) (i : Nat) : Prop where
  le : i ≤ n
  at_ : x13 = .int .i64 i
  tur : Turned w0 g12 cap12 ow wx
def SwapsTo (w0 : World) (n g12 cap12 : Nat) (ow : List Ent) (x13 : Value) (wx : World) : Prop := ∃ i, SwapSoFar w0 n g12 cap12 ow x13 wx i
/-- Two buffers that share nothing, all of whose blocks were made since w0. -/
structure Two (w0 : World) (ba bb most : Nat) (ea eb : List Ent) (va vb : Value) (w : World) : Prop where
  a : Mine w0 ba most ea va w
  b : Mine w0 bb most eb vb w
  ne : ba ≠ bb
  nv : ∀ g, va.ownBlock = some g → vb.ownBlock ≠ some g
theorem Two.putA {w0 w w' : World} {ba bb most : Nat} {ea eb ea' : List Ent} {va vb va' : Value} (h : Two w0 ba bb most ea eb va vb w) (m : Mine w0 ba most ea' va' w') (k : Chg (Foot ba va) w w') (hn : ∀ g, va'.ownBlock = some g → va.ownBlock = some g ∨ w.heap.size ≤ g) : Two w0 ba bb most ea' eb va' vb w' := by
  refine ⟨m, h.b.chg k h.a.foot ?_ ?_, h.ne, fun g hg => ?_⟩
  · rintro (e | e)
    · exact h.ne e.symm
    · exact h.b.buf.ne' h.a.buf e
  · rintro g hg (e | e)
    · exact h.a.buf.ne' h.b.buf (e ▸ hg)
    · exact h.nv g e hg
  · rcases hn g hg with h' | h'
    · exact h.nv g h'
    · intro e; have := h.b.buf.row.lt e; omega
theorem Two.symm {w0 w : World} {ba bb most : Nat} {ea eb : List Ent} {va vb : Value} (h : Two w0 ba bb most ea eb va vb w) : Two w0 bb ba most eb ea vb va w := ⟨h.b, h.a, h.ne.symm, fun g hg e => h.nv g e hg⟩
structure BothSoFar (w0 : World) (ba bb : Nat) (ow tl : List Ent) (x : Value) (wx : World) (i : Nat) (va vb : Value) : Prop where
  le : i ≤ ow.length
  at_ : x = .int .i64 i
  two : Two w0 ba bb (ow.length + 1) (bufOf (ow.length + 1) (ow.take i)) (bufOf (ow.length + 1) (tl.take i)) va vb wx
def BothTo (w0 : World) (ba bb : Nat) (ow tl : List Ent) (x : Value) (wx : World) : Prop := ∃ i va vb, BothSoFar w0 ba bb ow tl x wx i va vb
structure FillSoFar (w0 : World) (bc most : Nat) (ow : List Ent) (x : Value) (wx : World) (i : Nat) (v : Value) : Prop where
  le : i ≤ ow.length
  at_ : x = .int .i64 i
  mine : Mine w0 bc most (bufOf most (ow.take i)) v wx
def FillTo (w0 : World) (bc most : Nat) (ow : List Ent) (x : Value) (wx : World) : Prop := ∃ i v, FillSoFar w0 bc most ow x wx i v
/-- So many entries are looked through: the first of each key are in the list. -/
structure OwnSoFar (W : World) (L : List Ent) (x8 x9 : Value) (wr : World) (i g cap : Nat) (ow : List Ent) : Prop where
  le : i ≤ L.length
  at_ : x9 = .int .i64 i
  own : x8 = .slice (some ⟨g, 0, none⟩) ow.length cap
  row : MyRow W g cap ow wr
  un : Unlike ow
  short : ow.length ≤ i
def OwnsTo (W : World) (L : List Ent) (x8 x9 : Value) (wr : World) : Prop := ∃ i g cap ow, OwnSoFar W L x8 x9 wr i g cap ow
structure AnySoFar (w5 : World) (key : Int) (z : Bool) (ow : List Ent) (x10 x11 : Value) (wr : World) (k : Nat) : Prop where
  le : k ≤ ow.length
  at_ : x11 = .int .i64 k
  any : x10 = .bool (z || anyKey key (ow.take k))
  bel : Below w5.heap.size w5 wr
def AnyTo (w5 : World) (key : Int) (z : Bool) (ow : List Ent) (x10 x11 : Value) (wr : World) : Prop := ∃ k, AnySoFar w5 key z ow x10 x11 wr k

theorem any_on {z : Bool} {key : Int} {ow : List Ent} {k : Nat} (hk : k < ow.length) (h : (z || anyKey key (ow.take k)) = true) : (z || anyKey key (ow.take (k + 1))) = true := by
  rw [anyKey_take key ow hk, ← Bool.or_assoc, h]; rfl
theorem any_hit {z : Bool} {key : Int} {ow : List Ent} {k : Nat} (hk : k < ow.length) (h : (ow[k].1 == key) = true) : (z || anyKey key (ow.take (k + 1))) = true := by
  rw [anyKey_take key ow hk, h]; simp
theorem any_miss {z : Bool} {key : Int} {ow : List Ent} {k : Nat} (hk : k < ow.length) (h : (z || anyKey key (ow.take k)) = false) (h2 : (ow[k].1 == key) = false) : (z || anyKey key (ow.take (k + 1))) = false := by
  rw [anyKey_take key ow hk, h2, Bool.or_false]; exact h
theorem ecells_one (e : Ent) : ∀ u ∈ ecells e, u.oneCell' = true := by intro u hu; simp [ecells] at hu; rcases hu with rfl | rfl | rfl <;> rfl
theorem MyRow.own {W : World} {g cap : Nat} {es : List Ent} {wr : World} (h : MyRow W g cap es wr) (cs : List Value) : (wr.alloc (.cells cs.toArray 27)).ownsRow W.heap.size 27 3 (.slice (some ⟨g, 0, none⟩) es.length cap) es.length (flat es) :=
  own_mono (own_chg h.row ((Chg.refl (fun _ => False) wr).alloc _) (fun _ _ h => h)) (fun k hk => by simp only [Value.ownBlock, Option.some.injEq] at hk; rw [← hk]; exact h.lo)
theorem MyRow.append {W : World} {g cap : Nat} {es : List Ent} {wr wa w1 : World} (h : MyRow W g cap es wr) (ha : Chg (fun _ => False) wr wa) {g2 cap2 : Nat} {e : Ent} (hown : w1.ownsRow W.heap.size 27 3 (.slice (some ⟨g2, 0, none⟩) (es.length + 1) cap2) (es.length + 1) (flat es ++ ecells e)) (hgr : wa.grownBy w1 (Value.slice (some ⟨g, 0, none⟩) es.length cap).ownBlock) :
    MyRow W g2 cap2 (es ++ [e]) w1 := by
  refine ⟨?_, (hown.lt g2 rfl).1, ?_⟩
  · have := own_mono (base' := 0) hown (fun _ _ => Nat.zero_le _)
    unfold Row; rw [flat_append, List.length_append]; exact this
  · have hb : Below W.heap.size W wa := below_chg h.bel ha (fun _ _ h => h.elim) h.bel.size
    exact hb.grown hgr hb.size (fun k hk => by simp only [Value.ownBlock, Option.some.injEq] at hk; rw [← hk]; exact h.lo)

theorem below_set6 {w a : World} {B g : Nat} {o1 o2 o3 o4 o5 o6 : Nat} {x1 x2 x3 x4 x5 x6 : Value} (h : Below B a w) (hB : B ≤ g) : Below B a ((((((w.setCell ⟨g, o1, none⟩ x1).setCell ⟨g, o2, none⟩ x2).setCell ⟨g, o3, none⟩ x3).setCell ⟨g, o4, none⟩ x4).setCell ⟨g, o5, none⟩ x5).setCell ⟨g, o6, none⟩ x6) :=
  (((((h.setCell hB _).setCell hB _).setCell hB _).setCell hB _).setCell hB _).setCell hB _
theorem MyRow.swap {w0 : World} {g cap : Nat} {es : List Ent} {wr : World} (h : MyRow w0 g cap es wr) {i j : Nat} (hi : i < es.length) (hj : j < es.length) :
    MyRow w0 g cap ((es.set j es[i]).set i es[j]) (((((((wr.setCell ⟨g, j * 3, none⟩ (.int .u64 es[i].1)).setCell ⟨g, j * 3 + 1, none⟩ (.int .u64 es[i].2.1)).setCell ⟨g, j * 3 + 2, none⟩ (.bool es[i].2.2)).setCell ⟨g, i * 3, none⟩ (.int .u64 es[j].1)).setCell ⟨g, i * 3 + 1, none⟩ (.int .u64 es[j].2.1)).setCell ⟨g, i * 3 + 2, none⟩ (.bool es[j].2.2)).drew) := by
  have r := Row.store (Row.store h.row hj es[i]) (i := i) (by simpa using hi) es[j]
  refine ⟨?_, h.lo, (below_set6 h.bel h.lo).drew⟩
  have r2 := r.drew
  simpa using r2

attribute [local go_sem high] eqEnt
set_option maxRecDepth 100000 in
set_option maxHeartbeats 8000000 in
theorem order_walk (A B : Option Addr) (c d n : Nat) (L : List Ent) (zs : Nat → Int) (most : Int) (hlen : L.length ≤ 1048576) (hn : n ≤ 9223372036854775807) (W : World) (hL : Arg W A L)
    (hB : 0 < n → ∃ b o, B = some ⟨b, o, none⟩ ∧ b < W.heap.size ∧ ∀ i, i < n → (-9223372036854775808 ≤ zs i ∧ zs i ≤ 9223372036854775807) ∧ W.cell? ⟨b, o + i, none⟩ = some (.int .i64 (zs i))) :
    Calls Try.prog 3 #[.slice A L.length c, .slice B n d, .int .i64 most] W fun e w' => e = .returned (.bool true) ∧ Below W.heap.size W w' := by
  obtain ⟨i0, hi, hz0, hz1, hz2⟩ := info_parts infoE
  go_enter Try.func3, Try.ntmps3
  go_wp2_with fail
  refine (shown_any _).mono ?_
  rintro e w1 ⟨rfl, hb1⟩
  go_wp2_with fail
  go_loopw [8, 9] (fun x8 x9 wr => OwnsTo W L x8 x9 wr) (fun _ x9 _ => L.length - (intOf x9).toNat)
  case atStart => exact ⟨0, _, _, [], Nat.zero_le _, rfl, rfl, ⟨Row.mk' (cur := #[]) (Blk.new _ _ _) (Nat.le_refl _) (Nat.zero_le _) rfl rfl, hb1.size, below_new hb1 _⟩, Unlike.nil, Nat.le_refl _⟩
  case round =>
    obtain ⟨i, g, cap, ow, H⟩ := hrel
    obtain rfl := H.at_
    obtain rfl := H.own
    have hi1 := H.le
    have hs1 := H.short
    by_cases hlt : i < L.length
    · obtain ⟨b0, o, rfl, hb0, c0, c1, c2⟩ := hL.at hlt
      have d0 := (H.row.bel.cell (p := ⟨b0, o + i * 3, none⟩) hb0).trans c0
      have d1 := (H.row.bel.cell (p := ⟨b0, o + i * 3 + 1, none⟩) hb0).trans c1
      have d2 := (H.row.bel.cell (p := ⟨b0, o + i * 3 + 2, none⟩) hb0).trans c2
      have HL := Lib.hid hL
      clear hL
      rcases hLi : L[i] with ⟨key, x, z⟩
      rw [hLi] at c0 c1 c2 d0 d1 d2
      have HX := Lib.hid hLi
      clear hLi
      simp only [] at c0 c1 c2 d0 d1 d2
      obtain ⟨wo, rfl⟩ : ∃ wo : World, wo = wr := ⟨_, rfl⟩
      rcases ent_ways key x z with ⟨rfl, hbad⟩ | ⟨rfl, hx, hbad⟩ | ⟨rfl, hx, hbad⟩
      · have HBAD := Lib.hid hbad
        clear hbad
        go_wp2_with fail
        go_loopw [10, 11] (fun x10 x11 wr => AnyTo wo key false ow x10 x11 wr) (fun _ x11 _ => ow.length - (intOf x11).toNat)
        case atStart => exact ⟨0, Nat.zero_le _, rfl, rfl, Below.refl _ _⟩
        case round =>
          obtain ⟨k, G⟩ := hrel
          obtain rfl := G.at_
          obtain rfl := G.any
          have hk := G.le
          have bel2 : Below W.heap.size W wr := below_next H.row.bel G.bel
          have RK : Row wr _ ow := H.row.row.below G.bel
          clear d0 d1 d2
          have d0 := (bel2.cell (p := ⟨b0, o + i * 3, none⟩) hb0).trans c0
          by_cases hkl : k < ow.length
          · obtain ⟨s0, s1, s2⟩ := RK.cells hkl
            clear c0 c1 c2
            have b1 : (0 : Int) ≤ (k : Int) := by omega
            have b2 : (k : Int) < (ow.length : Int) := by omega
            have b3 : (0 : Int) ≤ (i : Int) := by omega
            have b4 : (i : Int) < (L.length : Int) := by omega
            by_cases hso : (false || anyKey key (ow.take k)) = true
            · have V := Lib.hid (any_on (z := false) (key := key) hkl hso)
              rw [hso]
              clear hso
              go_wp2_with fail
              go_quiet (fail)
              go_wp2_with fail
              go_roundw
              case rel => first | exact ⟨k + 1, hkl, by go_num, by rw [V.out], drewN_below G.bel _⟩ | ((repeat apply Exists.intro); exact ⟨⟨k + 1, hkl, by go_num, by rw [V.out], drewN_below G.bel _⟩, rfl⟩)
              case measure => simp [intOf]; omega
            have hso : (false || anyKey key (ow.take k)) = false := by simpa using hso
            by_cases hkk : (ow[k].1 == key) = true
            · have V := Lib.hid (any_hit (z := false) (key := key) hkl hkk)
              rw [hso]
              clear hso
              go_wp2_with fail
              go_quiet (fail)
              go_wp2_with fail
              go_roundw
              case rel => first | exact ⟨k + 1, hkl, by go_num, by rw [V.out], drewN_below G.bel _⟩ | ((repeat apply Exists.intro); exact ⟨⟨k + 1, hkl, by go_num, by rw [V.out], drewN_below G.bel _⟩, rfl⟩)
              case measure => simp [intOf]; omega
            · have hkk : (ow[k].1 == key) = false := by simpa using hkk
              have V := Lib.hid (any_miss (z := false) (key := key) hkl hso hkk)
              rw [hso]
              clear hso
              go_wp2_with fail
              go_quiet (fail)
              go_wp2_with fail
              go_roundw
              case rel => first | exact ⟨k + 1, hkl, by go_num, by rw [V.out], drewN_below G.bel _⟩ | ((repeat apply Exists.intro); exact ⟨⟨k + 1, hkl, by go_num, by rw [V.out], drewN_below G.bel _⟩, rfl⟩)
              case measure => simp [intOf]; omega
          · obtain rfl : k = ow.length := by omega
            rw [List.take_of_length_le (Nat.le_refl _)]
            by_cases hso : (false || anyKey key ow) = true
            · rw [hso]
              clear hso c0 c1 c2
              go_wp2_with fail
              go_roundw
              case rel => first | exact ⟨i + 1, g, cap, ow, hlt, by go_num, rfl, ⟨RK, H.row.lo, bel2⟩, H.un, by omega⟩ | ((repeat apply Exists.intro); exact ⟨⟨i + 1, g, cap, ow, hlt, by go_num, rfl, ⟨RK, H.row.lo, bel2⟩, H.un, by omega⟩, rfl⟩)
              case measure => simp [intOf]; omega
            have hso : (false || anyKey key ow) = false := by simpa using hso
            rw [hso]
            have d1 := (bel2.cell (p := ⟨b0, o + i * 3 + 1, none⟩) hb0).trans c1
            have d2 := (bel2.cell (p := ⟨b0, o + i * 3 + 2, none⟩) hb0).trans c2
            clear c0 c1 c2
            have U2 := Lib.hid (H.un.snoc HBAD.out (by simpa using hso))
            clear hso
            have HLE := Lib.hid (length_ecells (key, x, false))
            have HFO := Lib.hid (ecells_one (key, x, false))
            have MR : MyRow W g cap ow wr := ⟨RK, H.row.lo, bel2⟩
            have OW := Lib.hid (MR.own (ecells (key, x, false)))
            go_wp2_with (at_builtin; refine wpList_append_lies _ rfl (.tmp 72) (.tmp 77) 22 (by rfl) W.heap.size 27 i0 _ 3 24 Try.underlying22 hi hz0 hz1 hz2 rfl (by omega) (.slice (some ⟨g, 0, none⟩) ow.length cap) ow.length (flat ow) (by rfl) OW.out ⟨wr.heap.size, 0, none⟩ 1 1 (ecells (key, x, false)) (by rfl) HLE.out (ecells_news (Blk.new _ _ _)) HFO.out (by omega) (by unfold maxLen; omega) (by omega) (below_new bel2 _).size (wr.heap.size + 1) (by simp) ?_; intro g2 cap2 w2 hown hgr hat hlt2; have MA := Lib.hid (MR.append ((Chg.refl (fun _ => False) wr).alloc _) hown hgr); clear hown hgr hat)
            go_roundw
            case rel => first | exact ⟨i + 1, g2, cap2, ow ++ [(key, x, false)], hlt, by go_num, by rw [List.length_append]; rfl, MA.out, U2.out, by simp; omega⟩ | ((repeat apply Exists.intro); exact ⟨⟨i + 1, g2, cap2, ow ++ [(key, x, false)], hlt, by go_num, by rw [List.length_append]; rfl, MA.out, U2.out, by simp; omega⟩, rfl⟩)
            case measure => simp [intOf]; omega
      · have HBAD := Lib.hid hbad
        clear hbad
        have hx2 : (x != 0) = false := by simp [bne, hx]
        go_wp2_with fail
        go_loopw [10, 11] (fun x10 x11 wr => AnyTo wo key false ow x10 x11 wr) (fun _ x11 _ => ow.length - (intOf x11).toNat)
        case atStart => exact ⟨0, Nat.zero_le _, rfl, rfl, Below.refl _ _⟩
        case round =>
          obtain ⟨k, G⟩ := hrel
          obtain rfl := G.at_
          obtain rfl := G.any
          have hk := G.le
          have bel2 : Below W.heap.size W wr := below_next H.row.bel G.bel
          have RK : Row wr _ ow := H.row.row.below G.bel
          clear d0 d1 d2
          have d0 := (bel2.cell (p := ⟨b0, o + i * 3, none⟩) hb0).trans c0
          by_cases hkl : k < ow.length
          · obtain ⟨s0, s1, s2⟩ := RK.cells hkl
            clear c0 c1 c2
            have b1 : (0 : Int) ≤ (k : Int) := by omega
            have b2 : (k : Int) < (ow.length : Int) := by omega
            have b3 : (0 : Int) ≤ (i : Int) := by omega
            have b4 : (i : Int) < (L.length : Int) := by omega
            by_cases hso : (false || anyKey key (ow.take k)) = true
            · have V := Lib.hid (any_on (z := false) (key := key) hkl hso)
              rw [hso]
              clear hso
              go_wp2_with fail
              go_quiet (fail)
              go_wp2_with fail
              go_roundw
              case rel => first | exact ⟨k + 1, hkl, by go_num, by rw [V.out], drewN_below G.bel _⟩ | ((repeat apply Exists.intro); exact ⟨⟨k + 1, hkl, by go_num, by rw [V.out], drewN_below G.bel _⟩, rfl⟩)
              case measure => simp [intOf]; omega
            have hso : (false || anyKey key (ow.take k)) = false := by simpa using hso
            by_cases hkk : (ow[k].1 == key) = true
            · have V := Lib.hid (any_hit (z := false) (key := key) hkl hkk)
              rw [hso]
              clear hso
              go_wp2_with fail
              go_quiet (fail)
              go_wp2_with fail
              go_roundw
              case rel => first | exact ⟨k + 1, hkl, by go_num, by rw [V.out], drewN_below G.bel _⟩ | ((repeat apply Exists.intro); exact ⟨⟨k + 1, hkl, by go_num, by rw [V.out], drewN_below G.bel _⟩, rfl⟩)
              case measure => simp [intOf]; omega
            · have hkk : (ow[k].1 == key) = false := by simpa using hkk
              have V := Lib.hid (any_miss (z := false) (key := key) hkl hso hkk)
              rw [hso]
              clear hso
              go_wp2_with fail
              go_quiet (fail)
              go_wp2_with fail
              go_roundw
              case rel => first | exact ⟨k + 1, hkl, by go_num, by rw [V.out], drewN_below G.bel _⟩ | ((repeat apply Exists.intro); exact ⟨⟨k + 1, hkl, by go_num, by rw [V.out], drewN_below G.bel _⟩, rfl⟩)
              case measure => simp [intOf]; omega
          · obtain rfl : k = ow.length := by omega
            rw [List.take_of_length_le (Nat.le_refl _)]
            by_cases hso : (false || anyKey key ow) = true
            · rw [hso]
              clear hso c0 c1 c2
              go_wp2_with fail
              go_roundw
              case rel => first | exact ⟨i + 1, g, cap, ow, hlt, by go_num, rfl, ⟨RK, H.row.lo, bel2⟩, H.un, by omega⟩ | ((repeat apply Exists.intro); exact ⟨⟨i + 1, g, cap, ow, hlt, by go_num, rfl, ⟨RK, H.row.lo, bel2⟩, H.un, by omega⟩, rfl⟩)
              case measure => simp [intOf]; omega
            have hso : (false || anyKey key ow) = false := by simpa using hso
            rw [hso]
            have d1 := (bel2.cell (p := ⟨b0, o + i * 3 + 1, none⟩) hb0).trans c1
            have d2 := (bel2.cell (p := ⟨b0, o + i * 3 + 2, none⟩) hb0).trans c2
            clear c0 c1 c2
            have U2 := Lib.hid (H.un.snoc HBAD.out (by simpa using hso))
            clear hso
            have HLE := Lib.hid (length_ecells (key, x, true))
            have HFO := Lib.hid (ecells_one (key, x, true))
            have MR : MyRow W g cap ow wr := ⟨RK, H.row.lo, bel2⟩
            have OW := Lib.hid (MR.own (ecells (key, x, true)))
            go_wp2_with (at_builtin; refine wpList_append_lies _ rfl (.tmp 72) (.tmp 77) 22 (by rfl) W.heap.size 27 i0 _ 3 24 Try.underlying22 hi hz0 hz1 hz2 rfl (by omega) (.slice (some ⟨g, 0, none⟩) ow.length cap) ow.length (flat ow) (by rfl) OW.out ⟨wr.heap.size, 0, none⟩ 1 1 (ecells (key, x, true)) (by rfl) HLE.out (ecells_news (Blk.new _ _ _)) HFO.out (by omega) (by unfold maxLen; omega) (by omega) (below_new bel2 _).size (wr.heap.size + 1) (by simp) ?_; intro g2 cap2 w2 hown hgr hat hlt2; have MA := Lib.hid (MR.append ((Chg.refl (fun _ => False) wr).alloc _) hown hgr); clear hown hgr hat)
            go_roundw
            case rel => first | exact ⟨i + 1, g2, cap2, ow ++ [(key, x, true)], hlt, by go_num, by rw [List.length_append]; rfl, MA.out, U2.out, by simp; omega⟩ | ((repeat apply Exists.intro); exact ⟨⟨i + 1, g2, cap2, ow ++ [(key, x, true)], hlt, by go_num, by rw [List.length_append]; rfl, MA.out, U2.out, by simp; omega⟩, rfl⟩)
            case measure => simp [intOf]; omega
      · have HBAD := Lib.hid hbad
        clear hbad
        have hx2 : (x != 0) = true := by simp [bne, hx]
        go_wp2_with fail
        go_loopw [10, 11] (fun x10 x11 wr => AnyTo wo key true ow x10 x11 wr) (fun _ x11 _ => ow.length - (intOf x11).toNat)
        case atStart => exact ⟨0, Nat.zero_le _, rfl, rfl, Below.refl _ _⟩
        case round =>
          obtain ⟨k, G⟩ := hrel
          obtain rfl := G.at_
          obtain rfl := G.any
          have hk := G.le
          have bel2 : Below W.heap.size W wr := below_next H.row.bel G.bel
          have RK : Row wr _ ow := H.row.row.below G.bel
          clear d0 d1 d2
          have d0 := (bel2.cell (p := ⟨b0, o + i * 3, none⟩) hb0).trans c0
          by_cases hkl : k < ow.length
          · obtain ⟨s0, s1, s2⟩ := RK.cells hkl
            clear c0 c1 c2
            have b1 : (0 : Int) ≤ (k : Int) := by omega
            have b2 : (k : Int) < (ow.length : Int) := by omega
            have b3 : (0 : Int) ≤ (i : Int) := by omega
            have b4 : (i : Int) < (L.length : Int) := by omega
            have V := Lib.hid (any_on (z := true) (key := key) hkl (Bool.true_or _))
            rw [Bool.true_or]
            go_wp2_with fail
            go_quiet (fail)
            go_wp2_with fail
            go_roundw
            case rel => first | exact ⟨k + 1, hkl, by go_num, by rw [V.out], drewN_below G.bel _⟩ | ((repeat apply Exists.intro); exact ⟨⟨k + 1, hkl, by go_num, by rw [V.out], drewN_below G.bel _⟩, rfl⟩)
            case measure => simp [intOf]; omega
          · obtain rfl : k = ow.length := by omega
            rw [List.take_of_length_le (Nat.le_refl _)]
            rw [Bool.true_or]
            clear c0 c1 c2
            go_wp2_with fail
            go_roundw
            case rel => first | exact ⟨i + 1, g, cap, ow, hlt, by go_num, rfl, ⟨RK, H.row.lo, bel2⟩, H.un, by omega⟩ | ((repeat apply Exists.intro); exact ⟨⟨i + 1, g, cap, ow, hlt, by go_num, rfl, ⟨RK, H.row.lo, bel2⟩, H.un, by omega⟩, rfl⟩)
            case measure => simp [intOf]; omega
    · obtain ⟨b9, o9, hw9⟩ : ∃ (b9 o9 : Nat), True := ⟨0, 0, trivial⟩
      clear hw9
      have MR := H.row
      have UN := Lib.hid H.un
      have hos : ow.length ≤ 1048576 := by omega
      clear H
      have O1 := Lib.hid (World.ownsRow_made (e := 27) (size := 3) wr #[] 0 (Nat.le_refl _) (by unfold maxLen; omega) rfl)
      have HL1 := Lib.hid (length_flat ow)
      have HO := Lib.hid (flat_one ow)
      have H1 := Lib.hid (World.ownsRow.cells (g := g) (Row.below MR.row (below_new (Below.refl _ _) (.cells #[] 27))) rfl)
      go_upto_block 4 with (at_builtin; refine wpList_append_own _ rfl (.tmp 79) (.tmp 80) 22 (by rfl) wr.heap.size 27 i0 _ 3 24 Try.underlying22 hi hz0 hz1 hz2 rfl (by omega) (.slice (some ⟨wr.heap.size, 0, none⟩) 0 0) 0 [] (by rfl) O1.out ⟨g, 0, none⟩ ow.length cap (flat ow) (by rfl) HL1.out H1.out HO.out (by unfold maxLen; omega) (by omega) (by simp) ?_; intro v12 w2 hown hgr hnil)
      have hb2 : Below wr.heap.size wr w2 := (below_new (Below.refl _ _) _).grown hgr (by simp) (fun k hk => by simp [Value.ownBlock] at hk; omega)
      rcases hown.2 with ⟨hv, _⟩ | ⟨g12, cap12, cur, hv, hg12, _⟩
      · exact absurd (hnil.1 hv).1 (by simp)
      rw [Nat.zero_add, List.nil_append] at hown
      rw [Nat.zero_add] at hv
      subst hv
      have T0 : MyRow wr g12 cap12 ow w2 := ⟨own_mono hown (fun _ _ => Nat.zero_le _), hg12, hb2⟩
      obtain ⟨w0, rfl⟩ : ∃ w0 : World, w0 = wr := ⟨_, rfl⟩
      clear hown hgr hnil O1 HL1 HO H1
      go_cut [13] (fun x13 wx => Turned w0 g12 cap12 ow wx)
      case first =>
        go_wp2_with fail
        go_loopw [13] (fun x13 wx => SwapsTo w0 n g12 cap12 ow x13 wx) (fun x13 _ => n - (intOf x13).toNat)
        case atStart => exact ⟨0, Nat.zero_le _, rfl, ow, List.Perm.refl _, T0⟩
        case round =>
          obtain ⟨m, hm, rfl, tl, hp, TR⟩ := hrel
          have hpl := hp.length_eq
          by_cases hmn : m < n
          · by_cases hpos : 0 < ow.length
            · obtain ⟨bB, oB, rfl, hbB, hzB⟩ := hB (by omega)
              obtain ⟨⟨z1, z2⟩, cB⟩ := hzB m hmn
              have belx : Below W.heap.size W wr := below_next MR.bel TR.bel
              have eB := (belx.cell (p := ⟨bB, oB + m, none⟩) hbB).trans cB
              have KA := kind_any (zs m) z1 z2 wr
              generalize hkz : kindN (zs m) = kz at KA
              have HKZ := Lib.hid hkz
              clear hkz hzB cB
              have HP := Lib.hid hp
              have HPL := Lib.hid hpl
              clear hp hpl
              have b0 : (ow.length : Int) ≠ 0 := by omega
              go_upto_region 19 with (go_at_call 7; refine KA.mono ?_; rintro e w' ⟨rfl, rfl⟩)
              obtain ⟨K, hK, hKlt⟩ : ∃ K : Nat, ((kz : Int) % (ow.length : Int)) = (K : Int) ∧ K < ow.length := ⟨kz % ow.length, by omega, Nat.mod_lt _ hpos⟩
              obtain ⟨J, hJ, hJlt⟩ : ∃ J : Nat, ((m : Int) % (ow.length : Int)) = (J : Int) ∧ J < ow.length := ⟨m % ow.length, by omega, Nat.mod_lt _ hpos⟩
              rw [hK, hJ]
              clear hK hJ eB KA
              have hKt : K < tl.length := by rw [HPL.out]; exact hKlt
              have hJt : J < tl.length := by rw [HPL.out]; exact hJlt
              have b1 : (0 : Int) ≤ (K : Int) := by omega
              have b2 : (K : Int) < (ow.length : Int) := by omega
              have b3 : (0 : Int) ≤ (J : Int) := by omega
              have b4 : (J : Int) < (ow.length : Int) := by omega
              obtain ⟨p0, p1, p2⟩ := TR.row.cells hKt
              obtain ⟨q0, q1, q2⟩ := TR.row.cells hJt
              have hfree : ∀ j, wr.frozen? ⟨g12, j, none⟩ = false := fun j => TR.row.free j
              have SW := Lib.hid (TR.swap hKt hJt)
              have hpp : ((tl.set J tl[K]).set K tl[J]).Perm ow := (List.set_set_perm hJt hKt).trans HP.out
              have HPP := Lib.hid hpp
              clear hpp
              have hmn2 := hmn
              by_cases hKJ : K = J
              · subst hKJ
                go_region
                go_wp2_with fail
                go_roundw
                case rel => exact ⟨m + 1, hmn2, by go_num, _, HPP.out, SW.out⟩
                case measure => simp [intOf]; omega
              · have n00 : (K * 3 = J * 3) = False := by simp; omega
                have m00 : (J * 3 = K * 3) = False := by simp; omega
                have n01 : (K * 3 = J * 3 + 1) = False := by simp; omega
                have m01 : (J * 3 = K * 3 + 1) = False := by simp; omega
                have n02 : (K * 3 = J * 3 + 2) = False := by simp; omega
                have m02 : (J * 3 = K * 3 + 2) = False := by simp; omega
                have n10 : (K * 3 + 1 = J * 3) = False := by simp; omega
                have m10 : (J * 3 + 1 = K * 3) = False := by simp; omega
                have n11 : (K * 3 + 1 = J * 3 + 1) = False := by simp; omega
                have m11 : (J * 3 + 1 = K * 3 + 1) = False := by simp; omega
                have n12 : (K * 3 + 1 = J * 3 + 2) = False := by simp; omega
                have m12 : (J * 3 + 1 = K * 3 + 2) = False := by simp; omega
                have n20 : (K * 3 + 2 = J * 3) = False := by simp; omega
                have m20 : (J * 3 + 2 = K * 3) = False := by simp; omega
                have n21 : (K * 3 + 2 = J * 3 + 1) = False := by simp; omega
                have m21 : (J * 3 + 2 = K * 3 + 1) = False := by simp; omega
                have n22 : (K * 3 + 2 = J * 3 + 2) = False := by simp; omega
                have m22 : (J * 3 + 2 = K * 3 + 2) = False := by simp; omega
                go_region
                go_wp2_with fail
                go_roundw
                case rel => exact ⟨m + 1, hmn2, by go_num, _, HPP.out, SW.out⟩
                case measure => simp [intOf]; omega
            · go_wp2_with fail
              go_meet
              exact ⟨tl, hp, TR⟩
          · go_wp2_with fail
            go_meet
            exact ⟨tl, hp, TR⟩
      case rest =>
        obtain ⟨tl, hp, TR⟩ := hcut
        have hpl := hp.length_eq
        have MC : MyRow W g cap ow wc := ⟨MR.row.below TR.bel, MR.lo, below_next MR.bel TR.bel⟩
        have US := Lib.hid (UN.out.same (most := ow.length + 1) hp (by omega))
        have UT := Lib.hid (UN.out.perm hp)
        have hfl := (UN.out.fill (most := ow.length + 1) ow.length (Nat.le_refl _) (by omega)).2
        rw [List.take_of_length_le (Nat.le_refl _)] at hfl
        have HFL := Lib.hid hfl
        have HPL := Lib.hid hpl
        clear hp hpl hfl T0 hb2 hg12
        go_wp2_with fail
        refine (new_mine _ (by omega) (by omega) _).mono ?_
        rintro e w3 ⟨rfl, M1⟩
        go_wp2_with fail
        refine (new_mine _ (by omega) (by omega) _).mono ?_
        rintro e w4 ⟨rfl, M2⟩
        have hne : wc.heap.size ≠ w3.heap.size := by have := M1.buf.blk.lt; omega
        have TW : Two wc wc.heap.size w3.heap.size (ow.length + 1) [] [] (.slice none 0 0) (.slice none 0 0) w4 := ⟨M1.below M2.bel, M2.base M1.bel, hne, fun g hg => by simp [Value.ownBlock] at hg⟩
        generalize hba : wc.heap.size = ba at TW ⊢
        generalize hbb : w3.heap.size = bb at TW ⊢
        clear hne M1 M2 hba hbb
        go_wp2_with fail
        go_loopw [20] (fun x wx => BothTo wc ba bb ow tl x wx) (fun x _ => ow.length - (intOf x).toNat)
        case atStart => exact ⟨0, _, _, Nat.zero_le _, rfl, TW⟩
        case round =>
          obtain ⟨j, va, vb, hj, rfl, T⟩ := hrel
          have RO := MC.row.below T.a.bel
          have RT := TR.row.below T.a.bel
          by_cases hjl : j < ow.length
          · have hjt : j < tl.length := by rw [HPL.out]; exact hjl
            have hc1 := UN.out.code (most := ow.length + 1) hjl (by omega)
            have hc2 := UT.out.code (most := ow.length + 1) hjt (by omega)
            have hr1 := UN.out.rises (most := ow.length + 1) hj
            have hr2 := UT.out.rises (most := ow.length + 1) (Nat.le_of_lt hjt)
            have P1 := put_mine (es' := bufOf (ow.length + 1) (ow.take (j + 1))) (c := 0) (e := ow[j]) (by rw [bufOf_take _ _ hjl, ← hc1]) hr1.1 (by have := hr1.2.2; omega) T.a
            have P2 := fun (w : World) (h : Mine wc bb (ow.length + 1 : Nat) (bufOf (ow.length + 1) (tl.take j)) vb w) => put_mine (es' := bufOf (ow.length + 1) (tl.take (j + 1))) (c := 0) (e := tl[j]) (by rw [bufOf_take _ _ hjt, ← hc2]) hr2.1 (by have := hr2.2.2; omega) h
            clear hc1 hc2 hr1 hr2
            obtain ⟨p0, p1, p2⟩ := RO.cells hjl
            go_wp2_with fail
            refine P1.mono ?_
            rintro e w5 ⟨rfl, va', Ma, ka, na⟩
            have T2 := T.putA Ma ka na
            have RT2 := TR.row.below T2.a.bel
            obtain ⟨q0, q1, q2⟩ := RT2.cells hjt
            clear p0 p1 p2 P1 Ma ka na
            go_wp2_with fail
            refine (P2 _ T2.b).mono ?_
            rintro e w6 ⟨rfl, vb', Mb, kb, nb⟩
            have T3 := (T2.symm.putA Mb kb nb).symm
            clear P2 q0 q1 q2
            go_wp2_with fail
            go_roundw
            case rel => exact ⟨j + 1, _, _, hjl, by go_num, T3⟩
            case measure => simp [intOf]; omega
          · obtain rfl : j = ow.length := by omega
            have T : Two wc ba bb (ow.length + 1) (bufOf (ow.length + 1) ow) (bufOf (ow.length + 1) ow) va vb wr := by
              have T' := T
              rw [List.take_of_length_le (Nat.le_refl _), ← HPL.out, List.take_of_length_le (Nat.le_refl _), HPL.out, ← US.out] at T'
              exact T'
            go_wp2_with fail
            refine (list_any _ _ _ _ (by rw [HFL.out]; omega) _ T.a.buf).mono ?_
            rintro e w5 ⟨A1, c1, rfl, R1, hb5, -⟩
            go_wp2_with fail
            refine (list_any _ _ _ _ (by rw [HFL.out]; omega) _ (T.b.buf.below hb5)).mono ?_
            rintro e w6 ⟨A2, c2, rfl, R2, hb6, -⟩
            go_wp2_with fail
            have SM := same_any _ _ _ _ _ _ (by rw [HFL.out]; omega) _ (R1.below hb6) R2
            rw [decide_eq_true rfl] at SM
            refine SM.mono ?_
            rintro e w7 ⟨rfl, hb7⟩
            have B7 : Below wc.heap.size wc w7 := below_next (below_next (below_next T.a.bel hb5) hb6) hb7
            have M7 : MyRow W g cap ow w7 := ⟨MC.row.below B7, MC.lo, below_next MC.bel B7⟩
            clear T SM R1 R2 hb5 hb6 hb7 RO RT
            rw [HFL.out]
            by_cases hm1 : most < 1
            · go_wp2_with fail
              go_ret
              exact ⟨rfl, M7.bel⟩
            by_cases hm2 : (ow.length : Int) < most
            · go_wp2_with fail
              go_ret
              exact ⟨rfl, M7.bel⟩
            obtain ⟨mN, hmN⟩ : ∃ mN : Nat, most = (mN : Int) := ⟨most.toNat, by omega⟩
            subst hmN
            go_wp2_with fail
            refine (new_mine _ (by omega) (by omega) _).mono ?_
            rintro e w8 ⟨rfl, M8⟩
            generalize w7.heap.size = bc at M8 ⊢
            go_wp2_with fail
            go_loopw [27] (fun x wx => FillTo w7 bc mN ow x wx) (fun x _ => ow.length - (intOf x).toNat)
            case atStart => exact ⟨0, _, Nat.zero_le _, rfl, M8⟩
            case round =>
              obtain ⟨j, v, hj, rfl, MF⟩ := hrel
              by_cases hjl : j < ow.length
              · have RO := M7.row.below MF.bel
                obtain ⟨p0, p1, p2⟩ := RO.cells hjl
                have hr1 := UN.out.rises (most := mN) hj
                by_cases hjm : j < mN
                · have hc1 := UN.out.code (most := mN) hjl hjm
                  have P1 := put_mine (es' := bufOf mN (ow.take (j + 1))) (c := 0) (e := ow[j]) (by rw [bufOf_take _ _ hjl, ← hc1]) hr1.1 (by have := hr1.2.2; omega) MF
                  clear hc1 hr1 RO
                  go_wp2_with fail
                  refine P1.mono ?_
                  rintro e w9 ⟨rfl, v', Ma, -, -⟩
                  clear P1 p0 p1 p2
                  go_wp2_with fail
                  go_roundw
                  case rel => exact ⟨j + 1, _, hjl, by go_num, Ma⟩
                  case measure => simp [intOf]; omega
                · have hc1 := UN.out.refuse (most := mN) hjl (by omega)
                  have P1 := put_mine (es' := bufOf mN (ow.take (j + 1))) (c := 140) (e := ow[j]) (by rw [bufOf_take _ _ hjl, ← hc1]) hr1.1 (by have := hr1.2.2; omega) MF
                  clear hc1 hr1 RO
                  go_wp2_with fail
                  refine P1.mono ?_
                  rintro e w9 ⟨rfl, v', Ma, -, -⟩
                  clear P1 p0 p1 p2
                  go_wp2_with fail
                  go_roundw
                  case rel => exact ⟨j + 1, _, hjl, by go_num, Ma⟩
                  case measure => simp [intOf]; omega
              · obtain rfl : j = ow.length := by omega
                have hfin := (UN.out.fill (most := mN) mN (by omega) (Nat.le_refl _)).2
                rw [UN.out.stay (most := mN) ow.length (Nat.le_refl _) (by omega)] at MF
                have hq : ((((bufOf mN (ow.take mN)).length : Nat) : Int) == (mN : Int)) = true := beq_iff_eq.2 (by omega)
                have HQ := Lib.hid hq
                have HFI := Lib.hid hfin
                clear hq hfin
                go_wp2_with fail
                refine (len_any _ _ _ _ _ MF.buf).mono ?_
                rintro e w9 ⟨rfl, rfl⟩
                rw [HFI.out]
                go_wp2_with fail
                refine (full_any _ _ _ _ _ MF.buf).mono ?_
                rintro e w9 ⟨rfl, nq, rfl⟩
                rw [HQ.out]
                go_wp2_with fail
                go_ret
                exact ⟨rfl, drewN_below (below_next M7.bel MF.bel) nq⟩
end Go.Proofs.Ytalhfjcopkmmlaa
