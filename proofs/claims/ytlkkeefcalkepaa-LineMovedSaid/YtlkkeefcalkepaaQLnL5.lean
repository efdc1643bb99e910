/-
  The law LineMoved: its walk.
-/
import Derived.Test.YtlkkeefcalkepaaQG10
import Derived.Deep.OwnRows
namespace Go.Proofs.Ytlkkeefcalkepaa
open Go.RowKit
set_option linter.unusedVariables false
set_option linter.unusedSimpArgs false

/-- The moved keys, so far. -/
def mvC (L : List Int) (d : Int) (i : Nat) : List Value := (L.take i).map (fun k => Value.int .u64 (k + d)) ++ List.replicate (L.length - i) (.int .u64 0)
theorem mvC_zero {L : List Int} {d : Int} : mvC L d 0 = List.replicate L.length (.int .u64 0) := by simp [mvC]
theorem mvC_end {L : List Int} {d : Int} : mvC L d L.length = (L.map (· + d)).map (Value.int .u64) := by simp [mvC]
theorem mvC_get {L : List Int} {d : Int} {i : Nat} (h : i < L.length) : (mvC L d i)[i]? = some (.int .u64 0) := by
  unfold mvC
  rw [List.getElem?_append_right (by simp; omega)]
  simp only [List.length_map, List.length_take]
  rw [List.getElem?_replicate, if_pos (by omega)]
theorem mvC_set {L : List Int} {d : Int} {i : Nat} (h : i < L.length) : (mvC L d i).toArray.setIfInBounds i (.int .u64 (L.getD i 0 + d)) = (mvC L d (i + 1)).toArray := by
  rw [List.setIfInBounds_toArray]
  unfold mvC
  rw [List.set_append_right _ _ (by simp; omega)]
  simp only [List.length_map, List.length_take]
  rw [show i - min i L.length = 0 from by omega, show L.length - i = (L.length - (i + 1)) + 1 from by omega, List.replicate_succ, List.set_cons_zero, List.take_succ_eq_append_getElem h, List.map_append, List.append_assoc]
  rw [List.getD_eq_getElem?_getD, List.getElem?_eq_getElem h]
  rfl
theorem list_arg {w : World} {g : Nat} {K : List Int} (h : Blk w g 25 (K.map (Value.int .u64)).toArray) : ArgU w (some ⟨g, 0, none⟩) K := by
  intro hn
  refine ⟨g, 0, rfl, h.lt, fun i hi => ?_⟩
  rw [Nat.zero_add, h.cell]
  simp [hi]
/-- A line's block, and the moved keys'. -/
structure MV (w : World) (gx : Nat) (x : Ln) (g : Nat) (cs : List Value) (wr : World) : Prop where
  l : LB w gx x wr
  b : Blk wr g 25 cs.toArray
  ge : w.heap.size ≤ g
  ne : gx < g
attribute [local go_sem high] eqLine
theorem madeU (n : Nat) : madeCells #[Value.int .u64 0] n = (List.replicate n (Value.int .u64 0)).toArray := by
  rw [← toList_madeCells_one]
/-- How far the keys are moved. -/
def byM (L : List Int) (d : Int) : Int := if 18446744073709551615 - L.getD (L.length - 1) 0 < 18446744073709551615 then d % (18446744073709551615 - L.getD (L.length - 1) 0 + 1) else d
theorem up_last {L : List Int} (h : L.Pairwise (· < ·)) {i : Nat} (hi : i < L.length) : L.getD i 0 ≤ L.getD (L.length - 1) 0 := by
  by_cases h0 : i = L.length - 1
  · rw [← h0]; exact Int.le_refl _
  · exact Int.le_of_lt (getD_lt h (by omega) (by omega))
theorem byM_ok {L : List Int} {d : Int} (hL : U64s L) (hU : L.Pairwise (· < ·)) (hd : u64ok d) : 0 ≤ byM L d ∧ ∀ i, i < L.length → L.getD i 0 + byM L d ≤ 18446744073709551615 := by
  by_cases hl : 0 < L.length
  · have h1 := hL.getD (show L.length - 1 < L.length by omega)
    unfold u64ok at h1 hd
    unfold byM
    split
    · have k1 := Int.emod_nonneg d (show 18446744073709551615 - L.getD (L.length - 1) 0 + 1 ≠ 0 by omega)
      have k2 := Int.emod_lt_of_pos d (show 0 < 18446744073709551615 - L.getD (L.length - 1) 0 + 1 by omega)
      exact ⟨k1, fun i hi => by have := up_last hU hi; omega⟩
    · exact ⟨hd.1, fun i hi => by have := up_last hU hi; omega⟩
  · unfold byM u64ok at *
    split
    · exact ⟨Int.emod_nonneg _ (by rw [List.getD_eq_getElem?_getD, List.getElem?_eq_none (by omega)]; simp), fun i hi => by omega⟩
    · exact ⟨hd.1, fun i hi => by omega⟩
set_option maxHeartbeats 8000000 in
set_option maxRecDepth 100000 in
theorem lineMoved_walk (A : Option Addr) (c : Nat) (L : List Int) (hL : U64s L) (hn : L.length ≤ 17592186044416) (eps : Int) (d : Int) (hd : u64ok d) (w : World) (hA : ArgU w A L) :
    Calls Try.prog 7 #[.slice A L.length c, .int .i64 eps, .int .u64 d] w fun e w' => e = .returned (.bool true) ∧ Below w.heap.size w w' := by
  have SH := shown5 w
  have HA := Lib.hid hA
  have HU := Lib.hid hL
  clear hA hL
  by_cases he : (lineOf L eps).2 = 0
  · obtain ⟨F, LI⟩ := lineOf_is he
    have hl : 0 < L.length := LI.pos
    have okF := (LI.lnOk HU.out hn (d := 0) (.inl rfl)).1
    have isF := LI.is
    obtain ⟨x, hx⟩ : ∃ x : Ln, (F.low.1, F.low.2, baseOf F.low L (eps - 1) L.length) = x := ⟨_, rfl⟩
    rw [hx] at isF
    have hby := byM_ok HU.out LI.up hd
    have HB := Lib.hid hby
    have HIS := Lib.hid isF
    have hm : lineOf (L.map (· + byM L d)) eps = (x, 0) := by rw [lineOf_mv]; exact isF
    have HM := Lib.hid hm
    obtain ⟨b, o, rfl, hb, hc0, hc⟩ := HA.out.first hl
    have HC := Lib.hid (And.intro hb hc)
    obtain ⟨la, hla⟩ : ∃ la, L.getD (L.length - 1) 0 = la := ⟨_, rfl⟩
    have hl64 : u64ok la := hla ▸ HU.out.getD (by omega)
    have l0 : 0 ≤ la := hl64.1
    have l1 : la ≤ 18446744073709551615 := hl64.2
    have hbm : byM L d = if 18446744073709551615 - la < 18446744073709551615 then d % (18446744073709551615 - la + 1) else d := by unfold byM; rw [hla]
    have HLA := Lib.hid hla
    have d0 : 0 ≤ d := hd.1
    have d1 : d ≤ 18446744073709551615 := hd.2
    obtain ⟨i0, hi, hz0, hz1, hz2⟩ := info_parts infoU
    have ul : IntKind.i64.wrap ((L.length : Int) - 1) = (L.length : Int) - 1 := IntWalk.i64_in _ (by omega)
    obtain ⟨dm, hdm⟩ : ∃ dm, byM L d = dm := ⟨_, rfl⟩
    rw [hdm] at HB HM hbm
    have hB0 : 0 ≤ dm := HB.out.1
    clear okF isF hm LI he hby hla hl64 hb hc hc0 hdm hd hx
    by_cases hr : 18446744073709551615 - la < 18446744073709551615
    all_goals
      first
        | (rw [if_pos hr] at hbm
           have g1 : decide (18446744073709551615 - la < 18446744073709551615) = true := by simpa using hr
           have u2 : IntKind.u64.wrap (18446744073709551615 - la + 1) = 18446744073709551615 - la + 1 := by rw [IntKind.wrap_u64]; omega
           have u3 : 0 < 18446744073709551615 - la + 1 := by omega)
        | (rw [if_neg hr] at hbm
           have g1 : decide (18446744073709551615 - la < 18446744073709551615) = false := by simpa using hr
           have u2 : True := trivial
           have u3 : True := trivial
           subst hbm)
      go_enter Try.func7, Try.ntmps7
      go_wp2_with fail
      refine SH.mono ?_
      rintro e w1 ⟨rfl, b1⟩
      have H1 := Lib.hid b1
      have O1 := of_post (c := c) HU.out hn (HA.out.below b1) HIS.out
      clear SH b1
      go_wp2_with fail
      refine O1.mono ?_
      rintro e w2 ⟨rfl, b2⟩
      have H2 := Lib.hid (LB.new (below_next H1.out b2) x)
      have O2 := refOf_post (c := c) HU.out hn (HA.out.below H2.out.bel) HIS.out
      clear O1 b2 H1
      go_wp2_with fail
      refine O2.mono ?_
      rintro e w3 ⟨rfl, b3⟩
      have H3 := Lib.hid (H2.out.below (below_new b3 (.cells #[.int .u64 x.1, .int .u64 x.2.1, .int .i64 x.2.2] 27)))
      have cl : (w3.alloc (.cells #[.int .u64 x.1, .int .u64 x.2.1, .int .i64 x.2.2] 27)).cell? ⟨b, o + (L.length - 1), none⟩ = some (.int .u64 la) := by rw [← HLA.out]; exact (H3.out.bel.cell (p := ⟨b, _, none⟩) HC.out.1).trans (HC.out.2 _ (by omega))
      clear O2 b3 H2
      go_upto_region 11 with fail
      try rw [← hbm]
      try clear hbm
      clear cl g1 u2 u3 hr
      generalize hW : w3.alloc (.cells #[.int .u64 x.1, .int .u64 x.2.1, .int .i64 x.2.2] 27) = W at *
      clear hW
      have BM : Hid (MV w w2.heap.size x W.heap.size (mvC L dm 0) (W.alloc (.cells (madeCells #[Value.int .u64 0] L.length) 25))) := Lib.hid (by
        rw [mvC_zero, madeU]
        exact ⟨H3.out.below (below_new (Below.refl _ _) _), Blk.new _ _ _, H3.out.bel.size, by have := H3.out.b.lt; omega⟩)
      go_wp2_with (first | (refine wpList_make_row _ rfl (.tmp 53) (.tmp 53) 22 rfl 25 i0 _ Try.underlying22 hi hz0 hz1 rfl .i64 .i64 L.length (by rfl) (by rfl) (by rw [hz2]; omega) (by omega) ?_))
      generalize W.heap.size = g at *
      clear H3
      go_loopw [14] (fun y wr => ∃ i : Nat, i ≤ L.length ∧ y = .int .i64 i ∧ Hid (MV w w2.heap.size x g (mvC L dm i) wr)) (fun y _ => L.length - (intOf y).toNat)
      case atStart => exact ⟨0, Nat.zero_le _, rfl, BM⟩
      case round =>
        obtain ⟨i, hil, rfl, HJ⟩ := hrel
        clear BM
        by_cases hlt : i < L.length
        · have ci : wr.cell? ⟨b, o + i, none⟩ = some (.int .u64 (L.getD i 0)) := (HJ.out.l.bel.cell (p := ⟨b, _, none⟩) HC.out.1).trans (HC.out.2 i hlt)
          have cg : wr.cell? ⟨g, i, none⟩ = some (.int .u64 0) := by rw [HJ.out.b.cell]; simpa using mvC_get (d := dm) hlt
          have cf : wr.frozen? ⟨g, i, none⟩ = false := HJ.out.b.free i
          have HS : Hid (MV w w2.heap.size x g (mvC L dm (i + 1)) (wr.setCell ⟨g, i, none⟩ (.int .u64 (L.getD i 0 + dm)))) := Lib.hid (by
            have h1 := HJ.out.b.set i (.int .u64 (L.getD i 0 + dm))
            rw [mvC_set hlt] at h1
            have hne := HJ.out.ne
            exact ⟨⟨HJ.out.l.b.far _ (by simp only []; omega), HJ.out.l.ge, HJ.out.l.bel.setCell HJ.out.ge _⟩, h1, HJ.out.ge, hne⟩)
          have hk1 := HB.out.2 i hlt
          have hk0 := (HU.out.getD hlt).1
          generalize L.getD i 0 = k at *
          have vk : IntKind.u64.wrap (k + dm) = k + dm := by rw [IntKind.wrap_u64]; omega
          go_wp2_with fail
          go_roundw
          case rel => exact ⟨i + 1, by omega, by go_num, HS⟩
          case measure => simp [intOf]; omega
        · have g5 : decide (i < L.length) = false := by simpa using hlt
          obtain rfl : i = L.length := by omega
          have HK : Hid (U64s (L.map (· + dm)) ∧ ArgU wr (some ⟨g, 0, none⟩) (L.map (· + dm)) ∧ (L.map (· + dm)).length = L.length) := Lib.hid ⟨fun y hy => by
            obtain ⟨a, ha, rfl⟩ := List.mem_map.1 hy
            obtain ⟨j, hj, rfl⟩ := List.mem_iff_getElem.1 ha
            have h1 := HB.out.2 j hj
            have h0 := HU.out.at hj
            rw [List.getD_eq_getElem?_getD, List.getElem?_eq_getElem hj, Option.getD_some] at h1
            unfold u64ok at *; omega, list_arg (by have := HJ.out.b; rwa [mvC_end] at this), by simp⟩
          have O3 := of_post (A := some ⟨g, 0, none⟩) (c := L.length) HK.out.1 (by rw [HK.out.2.2]; exact hn) HK.out.2.1 HM.out
          rw [HK.out.2.2] at O3
          go_wp2_with fail
          refine O3.mono ?_
          rintro e w4 ⟨rfl, b4⟩
          have k4 := below_new b4 (.cells #[.int .u64 x.1, .int .u64 x.2.1, .int .i64 x.2.2] 27)
          have H4 := Lib.hid (And.intro (HJ.out.l.below k4) (LB.new (below_next HJ.out.l.bel b4) x))
          obtain ⟨c0, c1, c2, _⟩ := H4.out.1.cells
          obtain ⟨f0, f1, f2, _⟩ := H4.out.2.cells
          clear O3 b4 k4 HJ
          go_wp2_with fail
          go_ret
          exact ⟨by simp, H4.out.1.bel⟩
  · obtain ⟨cc, hcc, hc0⟩ := err_zero he
    have HR := Lib.hid hcc
    have g0 : (cc == 0) = false := beq_eq_false_iff_ne.2 hc0
    have g1 : (cc != 0) = true := bne_iff_ne.2 hc0
    clear he hcc hc0
    go_enter Try.func7, Try.ntmps7
    go_wp2_with fail
    refine SH.mono ?_
    rintro e w1 ⟨rfl, b1⟩
    have H1 := Lib.hid b1
    have O1 := of_post (c := c) HU.out hn (HA.out.below b1) HR.out
    clear SH b1
    go_wp2_with fail
    refine O1.mono ?_
    rintro e w2 ⟨rfl, b2⟩
    have H2 := Lib.hid (LB.new (below_next H1.out b2) (0, 0, 0))
    have O2 := refOf_post (c := c) HU.out hn (HA.out.below H2.out.bel) HR.out
    clear O1 b2 H1
    go_wp2_with fail
    refine O2.mono ?_
    rintro e w3 ⟨rfl, b3⟩
    have H3 := Lib.hid (H2.out.below (below_new b3 (.cells #[.int .u64 0, .int .u64 0, .int .i64 0] 27)))
    clear O2 b3 H2
    go_wp2_with fail
    go_ret
    exact ⟨rfl, H3.out.bel⟩
end Go.Proofs.Ytlkkeefcalkepaa
