/-
  The law CutEnds.
-/
import Derived.Test.YtanhhgifcolfaaaCuEndsW
namespace Go.Proofs.Ytanhhgifcolfaaa
open Go.RowKit
set_option linter.unusedVariables false
set_option linter.unusedSimpArgs false

theorem Us.arg' {w0 w : World} {l : List Int} {g n cap : Nat} (h : Us w0 (.slice (some ⟨g, 0, none⟩) n cap) l w) : ArgU w (some ⟨g, 0, none⟩) l := by
  obtain ⟨A, c, hv, ha⟩ := h.arg
  injection hv with h1 h2 h3
  rw [h1]; exact ha
theorem Us.cap {w0 w : World} {l : List Int} {g n cap : Nat} (h : Us w0 (.slice (some ⟨g, 0, none⟩) n cap) l w) : l.length ≤ cap := by
  rcases h.1.2 with ⟨hv, _⟩ | ⟨g', cap', cur, hv, _, _, hn, _⟩
  · cases hv
  · injection hv with h1 h2 h3
    omega
theorem ArgU.left {w : World} {A : Option Addr} {l m : List Int} (h : ArgU w A (l ++ m)) : ArgU w A l := by
  intro hn
  obtain ⟨b, o, hA, hb, hc⟩ := h (by rw [List.length_append]; omega)
  exact ⟨b, o, hA, hb, fun i hi => by have := hc i (by rw [List.length_append]; omega); rwa [List.getElem_append_left hi] at this⟩
theorem Us.first {w0 w w1 : World} {v v' : Value} {L : List Int} (h : Us w0 v [] w) (hown : w1.ownsRow 0 34 1 v' (0 + L.length) ([] ++ L.map (Value.int .u64))) (hgr : w.grownBy w1 v.ownBlock) (hat : v'.ownBlock = v.ownBlock ∨ v'.ownBlock = some w.heap.size) : Us w0 v' L w1 := by
  have C : Chg (fun k => v.ownBlock = some k) w w1 := (Chg.refl _ w).grown hgr (fun k hk _ => hk)
  refine ⟨by simpa using hown, fun g hg => ?_, below_chg h.2.2 C (fun k _ hk => h.2.1 k hk) h.2.2.size⟩
  rcases hat with m | m
  · exact h.2.1 g (m ▸ hg)
  · rw [m] at hg
    simp only [Option.some.injEq] at hg
    have := h.2.2.size; omega
theorem Us.second {w0 w : World} {v : Value} {L : List Int} (h : Us w0 v L w) (o : Obj) : (w.alloc o).ownsRow 0 34 1 v L.length (L.map (Value.int .u64)) := own_chg h.1 ((Chg.refl (fun _ => False) w).alloc o) (fun _ _ h => h)
/-- What stands in memory when the ends are overwritten. -/
structure CEq (w : World) (a : Value) (go : Nat) (Aw : Option Addr) (A : Option Addr) (L : List Int) (l : List Nat) (wr : World) : Prop where
  own : ArgU wr (some ⟨go, 0, none⟩) (L ++ [77])
  want : ArgN wr Aw l
  keys : ArgU wr A L
  bel : Below w.heap.size w wr
theorem CEq.below {w wr w' : World} {a : Value} {go : Nat} {Aw A : Option Addr} {L : List Int} {l : List Nat} (h : CEq w a go Aw A L l wr) (k : Below wr.heap.size wr w') : CEq w a go Aw A L l w' := ⟨h.own.below k, h.want.below k, h.keys.below k, below_next h.bel k⟩
/-- The overwritten ends. -/
structure Over (w8 : World) (a : Value) (n : Nat) (xs : List Value) (wx : World) : Prop where
  row : wx.ownsRow 0 3 1 a n xs
  chg : Chg (fun k => a.ownBlock = some k) w8 wx
theorem Over.at {w8 wx : World} {A : Option Addr} {n c : Nat} {xs : List Value} (h : Over w8 (.slice A n c) n xs wx) {i : Nat} (hi : i < n) : ∃ g u, A = some ⟨g, 0, none⟩ ∧ wx.cell? ⟨g, i, none⟩ = some u ∧ wx.frozen? ⟨g, i, none⟩ = false ∧ Over w8 (.slice A n c) n (xs.set i (.int .i64 (-9))) (wx.setCell ⟨g, i, none⟩ (.int .i64 (-9))) := by
  have h0 := h.row
  rcases h0.2 with ⟨hv, h1⟩ | ⟨g, cap, cur, hv, _, hb, q1, q2, q3, q4⟩
  · omega
  · injection hv with e1 e2 e3
    subst e1 e3
    have hB : Blk wx g 3 cur := hb
    have hlt : i < cur.size := by omega
    refine ⟨g, cur[i], rfl, by rw [hB.cell]; exact Array.getElem?_eq_getElem hlt, hB.free i, own_set h.row rfl _, ?_⟩
    exact h.chg.setCell (p := ⟨g, i, none⟩) (fun _ => rfl) _
theorem row_last {w : World} {g n cap : Nat} {xs : List Value} {u : Value} (h : w.ownsRow 0 3 1 (.slice (some ⟨g, 0, none⟩) (n + 1) cap) (n + 1) (xs ++ [u])) : w.cell? ⟨g, n, none⟩ = some u := by
  have hl : xs.length = n := by have := h.1; simp at this; omega
  have := World.ownsRow.cells h (g := g) rfl n u (by rw [← hl]; simp)
  rw [Addr.add_mid, Nat.zero_add] at this
  exact this
set_option maxHeartbeats 8000000 in
set_option maxRecDepth 100000 in
theorem ends_walk (A : Option Addr) (c : Nat) (L : List Int) (hL : U64s L) (hn : L.length ≤ 17592186044416) (eps : Int) (w : World) (hA : ArgU w A L) :
    Calls Try.prog 9 #[.slice A L.length c, .int .i64 eps] w fun e w' => e = .returned (.bool true) ∧ Below w.heap.size w w' := by
  have SH := cshown_any w
  have HE := Lib.hid (fun (A' : Option Addr) (c' : Nat) (w' : World) (h : ArgU w' A' L) => ends_all eps A' c' L hL hn w' h)
  have HRE := Lib.hid (fun (w' : World) (h : ArgU w' A L) => rends_all eps A c L hL hn w' h)
  have HLL := Lib.hid (ansL_len eps L)
  have HN := Lib.hid hn
  have HA := Lib.hid hA
  obtain ⟨i0, hi, hz0, hz1, hz2⟩ := info_parts infoU
  obtain ⟨i1, hi1, hy0, hy1, hy2⟩ := info_parts infoI
  obtain ⟨l, hl⟩ : ∃ l, ansL eps L = l := ⟨_, rfl⟩
  obtain ⟨cd, hcd⟩ : ∃ cd, ansC eps L = cd := ⟨_, rfl⟩
  rw [hl] at HLL HE HRE
  rw [hcd] at HE HRE
  clear hL hA hn hl hcd
  go_enter Try.func9, Try.ntmps9
  go_wp2_with fail
  refine SH.mono ?_
  rintro e w1 ⟨rfl, b1⟩
  have HB1 := Lib.hid b1
  clear SH b1
  by_cases hbig : (300 : Int) < (L.length : Int)
  · have g1 : decide ((300 : Int) < (L.length : Int)) = true := decide_eq_true hbig
    have g1' : 300 < L.length := by omega
    go_wp2_with fail
    go_ret
    exact ⟨rfl, HB1.out⟩
  · have g1' : ¬ 300 < L.length := by omega
    have hL3 : L.length ≤ 300 := by omega
    have hl3 : l.length ≤ 300 := by have := HLL.out; omega
    clear hbig
    have U0 : Hid (Us w (.slice (some ⟨w1.heap.size, 0, none⟩) 0 0) [] (w1.alloc (.cells #[] 34))) := Lib.hid ⟨⟨rfl, .inr ⟨w1.heap.size, 0, #[], rfl, Nat.zero_le _, Blk.new _ _ _, Nat.le_refl _, Nat.zero_le _, rfl, rfl⟩⟩, fun g hg => by simp [Value.ownBlock] at hg; have := HB1.out.size; omega, below_next HB1.out (below_new (Below.refl _ _) _)⟩
    have RD : Hid (Reads (w1.alloc (.cells #[] 34)) (w1.alloc (.cells #[] 34)).heap.size 1 A L.length (L.map (Value.int .u64))) := Lib.hid ⟨by simp, fun h => by
      obtain ⟨b, o, hA, hb, hc⟩ := (HA.out.below U0.out.2.2) h
      refine ⟨_, hA, hb, fun j u hu => ?_⟩
      rw [List.getElem?_map] at hu
      by_cases hj : j < L.length
      · rw [List.getElem?_eq_getElem hj] at hu
        simp only [Option.map_some, Option.some.injEq] at hu
        subst hu
        rw [Addr.add_mid]; exact hc j hj
      · rw [List.getElem?_eq_none (by omega)] at hu; simp at hu⟩
    have HF1 : Hid (∀ u ∈ L.map (Value.int .u64), u.oneCell' = true) := Lib.hid (by intro u hu; obtain ⟨k, _, rfl⟩ := List.mem_map.1 hu; rfl)
    have HFO : Hid (∀ u ∈ ([.int .u64 77] : List Value), u.oneCell' = true) := Lib.hid (by intro u hu; simp at hu; rcases hu with rfl; rfl)
    go_upto_region 7 with (first | (at_builtin; refine wpList_append_any _ rfl (.tmp 23) (.tmp 24) 22 (by rfl) 0 34 i0 _ 1 8 Try.underlying22 hi hz0 hz1 hz2 rfl (by omega) (.slice (some ⟨w1.heap.size, 0, none⟩) 0 0) 0 [] (by rfl) U0.out.1 _ A L.length c (L.map (Value.int .u64)) (by rfl) RD.out HF1.out (by unfold maxLen; omega) (by omega) (Nat.zero_le _) ?_; intro v1 wa hown hgr hat; have U1 := Lib.hid (U0.out.first hown hgr hat); clear hown hgr hat) | (at_builtin; refine wpList_append_lies _ rfl (.tmp 25) (.tmp 26) 22 (by rfl) 0 34 i0 _ 1 8 Try.underlying22 hi hz0 hz1 hz2 rfl (by omega) v1 L.length (L.map (Value.int .u64)) (by rfl) (U1.out.second _) ⟨wa.heap.size, 0, none⟩ 1 1 [.int .u64 77] (by rfl) (by rfl) (World.news_of_block (Blk.new wa 34 #[.int .u64 77])) HFO.out (by omega) (by unfold maxLen; omega) (by omega) (Nat.zero_le _) (wa.heap.size + 1) (by simp) ?_; intro go capo wo hown hgr hat hlt; have U2 := Lib.hid (U1.out.grown' rfl hown hgr hat); clear hown hgr hat hlt))
    have hcapo : L.length + 1 ≤ capo := by have := U2.out.cap; simpa using this
    have AO := Lib.hid U2.out.arg'
    have E1 := HE.out (some ⟨go, 0, none⟩) capo wo AO.out.left
    have k0 : (0 : Int) ≤ (L.length : Int) := by omega
    have k1 : (L.length : Int) ≤ (capo : Int) := by omega
    have k2 : ((L.length : Int)).toNat = L.length := by omega
    have HBo := Lib.hid U2.out.2.2
    have HGo : Hid (go < wo.heap.size) := Lib.hid (by obtain ⟨b, o, h1, h2, _⟩ := AO.out (by simp); injection h1 with h1; injection h1 with h1 h3; omega)
    clear U0 U1 RD HF1 U2
    go_wp2_with fail
    refine E1.mono ?_
    rintro e w3 ⟨va, rfl, Na, oa, b3⟩
    have HNa := Lib.hid (And.intro Na (And.intro oa b3))
    have E2 := HRE.out w3 (HA.out.below (below_next HBo.out b3))
    clear E1 Na oa b3
    go_wp2_with fail
    refine E2.mono ?_
    rintro e w4 ⟨Aw, cw, rfl, Nw, ow, b4⟩
    have HNw := Lib.hid (And.intro Nw (And.intro ow b4))
    have HI4 : Hid (Ints w4 va l) := Lib.hid (own_chg HNa.out.1 (Chg.of_below b4) (fun _ _ h => h))
    obtain ⟨Aa, ca, hva⟩ := HI4.out.arg
    obtain ⟨rfl, Naa, _⟩ := hva.resolve_right (by omega)
    have HNaa := Lib.hid Naa
    have SM := same_any l l Aa Aw ca cw (by omega) w4 Naa Nw
    rw [show decide (l = l) = true from by simp] at SM
    clear E2 Nw ow b4 Naa
    go_wp2_with fail
    refine SM.mono ?_
    rintro e w5 ⟨rfl, b5⟩
    have CE : Hid (CEq w (.slice Aa l.length ca) go Aw A L l w5) := Lib.hid ⟨AO.out.below (below_next HNa.out.2.2 (below_next HNw.out.2.2 b5)), HNw.out.1.below b5, HA.out.below (below_next HBo.out (below_next HNa.out.2.2 (below_next HNw.out.2.2 b5))), below_next HBo.out (below_next HNa.out.2.2 (below_next HNw.out.2.2 b5))⟩
    have h77 : w5.cell? ⟨go, L.length, none⟩ = some (.int .u64 77) := by
      obtain ⟨b, o, h1, h2, h3⟩ := CE.out.own (by simp)
      injection h1 with h1
      injection h1 with h1 h4
      subst h1 h4
      have := h3 L.length (by simp)
      simpa using this
    have q1 : (L.length : Int) < (L.length : Int) + 1 := by omega
    have HI5 : Hid (w5.ownsRow 0 3 1 (.slice Aa l.length ca) l.length (l.map (fun (n : Nat) => Value.int .i64 (n : Int)))) := Lib.hid (own_chg HI4.out (Chg.of_below b5) (fun _ _ h => h))
    have NE1 : Hid (¬ (Value.slice Aa l.length ca).ownBlock = some go) := Lib.hid (fun h => by have := HNa.out.2.1 go h; have := HGo.out; omega)
    have NE2 : Hid (∀ g o, Aw = some ⟨g, o, none⟩ → ¬ (Value.slice Aa l.length ca).ownBlock = some g) := Lib.hid (fun g o h k => by have h1 := HNw.out.2.1 g o h; have h2 := own_lt HNa.out.1 k; omega)
    have HOA : Hid (∀ g, (Value.slice Aa l.length ca).ownBlock = some g → w.heap.size ≤ g) := Lib.hid (fun g h => Nat.le_trans HBo.out.size (HNa.out.2.1 g h))
    clear SM HI4 HNa HNw HNaa b5 HBo HGo AO k1 k2
    go_wp2_with fail
    go_loopw [11] (fun x11 wr => ∃ i : Nat, i ≤ L.length ∧ x11 = .int .i64 (i : Int) ∧ Hid (Below w5.heap.size w5 wr)) (fun x _ => L.length - (intOf x).toNat)
    case atStart => exact ⟨0, by omega, rfl, Lib.hid (Below.refl _ _)⟩
    case round =>
      obtain ⟨i, hi2, rfl, HB⟩ := hrel
      by_cases hlt : i < L.length
      · obtain ⟨gb, o1, h1, hb1, hc1⟩ := CE.out.own.left.at hlt
        injection h1 with h1
        injection h1 with h1 h4
        subst h1 h4
        obtain ⟨kb, ko, rfl, hb2, hc2⟩ := CE.out.keys.at hlt
        have z1 : wr.cell? ⟨go, i, none⟩ = some (.int .u64 L[i]) := by
          have := (HB.out.cell (p := ⟨go, 0 + i, none⟩) hb1).trans hc1
          rwa [Nat.zero_add] at this
        have z2 : wr.cell? ⟨kb, ko + i, none⟩ = some (.int .u64 L[i]) := (HB.out.cell (p := ⟨kb, _, none⟩) hb2).trans hc2
        obtain ⟨x, hx⟩ : ∃ x, L[i] = x := ⟨_, rfl⟩
        rw [hx] at z1 z2
        have j1 : (i : Int) < (L.length : Int) + 1 := by omega
        have j2 : (i : Int) < (L.length : Int) := by omega
        clear hc1 hc2 hx h77
        go_wp2_with fail
        go_quiet (fail)
        go_wp2_with fail
        go_roundw
        case rel => exact ⟨i + 1, by omega, by go_num, Lib.hid (drewN_below HB.out _)⟩
        case measure => simp [intOf]; omega
      · have CE8 := Lib.hid (CE.out.below HB.out)
        have HI8 : Hid (Over wr (.slice Aa l.length ca) l.length (l.map (fun (n : Nat) => Value.int .i64 (n : Int))) wr) := Lib.hid ⟨own_chg HI5.out (Chg.of_below HB.out) (fun _ _ h => h), Chg.refl _ _⟩
        obtain ⟨w8, hw8⟩ : ∃ w8 : World, w8 = wr := ⟨_, rfl⟩
        subst hw8
        clear CE HB HI5 h77 hi2
        go_wp2_with fail
        go_loopw [12] (fun x12 wx => ∃ (j : Nat) (xs : List Value), j ≤ l.length ∧ x12 = .int .i64 (j : Int) ∧ Hid (Over w8 (.slice Aa l.length ca) l.length xs wx)) (fun x _ => l.length - (intOf x).toNat)
        case atStart => exact ⟨0, _, by omega, rfl, HI8⟩
        case round =>
          obtain ⟨j, xs, hj2, rfl, HOv⟩ := hrel
          by_cases hjl : j < l.length
          · obtain ⟨ga, u0, rfl, z1, z2, HO2⟩ := HOv.out.at hjl
            have HO3 := Lib.hid HO2
            have j2 : (j : Int) < (l.length : Int) := by omega
            clear HO2
            go_wp2_with fail
            go_roundw
            case rel => exact ⟨j + 1, _, by omega, by go_num, HO3⟩
            case measure => simp [intOf]; omega
          · have HFm : Hid (∀ u ∈ ([.int .i64 (-8)] : List Value), u.oneCell' = true) := Lib.hid (by intro u hu; simp at hu; rcases hu with rfl; rfl)
            have HO1 : Hid ((wr.alloc (.cells #[.int .i64 (-8)] 3)).ownsRow 0 3 1 (.slice Aa l.length ca) l.length xs) := Lib.hid (own_chg HOv.out.row ((Chg.refl (fun _ => False) wr).alloc _) (fun _ _ h => h))
            go_upto_region 21 with (at_builtin; go_loud (refine wpList_append_lies _ rfl (.tmp 84) (.tmp 85) 52 (by rfl) 0 3 i1 _ 1 8 Try.underlying52 hi1 hy0 hy1 hy2 rfl (by omega) (.slice Aa l.length ca) l.length xs (by rfl) HO1.out ⟨wr.heap.size, 0, none⟩ 1 1 [.int .i64 (-8)] (by rfl) (by rfl) (World.news_of_block (Blk.new wr 3 #[.int .i64 (-8)])) HFm.out (by omega) (by unfold maxLen; omega) (by omega) (Nat.zero_le _) (wr.heap.size + 1) (by simp) ?_); intro g2 cap2 wn hown hgr hat hlt2; have HROW := Lib.hid (row_last hown); have HCN := Lib.hid ((HOv.out.chg.alloc (.cells #[.int .i64 (-8)] 3)).grown hgr (fun k hk _ => hk)); have HG2L : Hid (g2 < wn.heap.size) := Lib.hid hlt2; clear hown hgr hat hlt2)
            have AOn := Lib.hid (CE8.out.own.chg HCN.out (fun g o h => by injection h with h; injection h with h1 h2; subst h1; exact NE1.out))
            have AWn := Lib.hid (CE8.out.want.chg HCN.out (fun g o h => NE2.out g o h))
            have HBN : Hid (Below w.heap.size w wn) := Lib.hid (below_chg CE8.out.bel HCN.out (fun k _ hk => HOA.out k hk) CE8.out.bel.size)
            have HLE : Hid (L.length + 1 ≤ capo) := Lib.hid hcapo
            have E3 := HE.out (some ⟨go, 0, none⟩) capo wn AOn.out.left
            have k1 : (L.length : Int) ≤ (capo : Int) := by omega
            have k2 : ((L.length : Int)).toNat = L.length := by omega
            clear HOv HFm HO1 HCN CE8 AOn NE1 NE2 HOA
            go_wp2_with fail
            refine E3.mono ?_
            rintro e9 w9 ⟨vb, rfl, Nb, ob, b9⟩
            have HB9 := Lib.hid b9
            obtain ⟨Ab, cb, hvb⟩ := Nb.arg
            obtain ⟨rfl, Nbb, _⟩ := hvb.resolve_right (by omega)
            have SM2 := same_any l l Ab Aw cb cw (by omega) w9 Nbb (AWn.out.below b9)
            rw [show decide (l = l) = true from by simp] at SM2
            clear E3 Nb ob b9 Nbb
            go_wp2_with fail
            refine SM2.mono ?_
            rintro e10 w10 ⟨rfl, b10⟩
            have HB10 := Lib.hid b10
            have z9 : w10.cell? ⟨g2, l.length, none⟩ = some (.int .i64 (-8)) := ((below_next HB9.out b10).cell (p := ⟨g2, l.length, none⟩) HG2L.out).trans HROW.out
            have q2 : (l.length : Int) < (l.length : Int) + 1 := by omega
            clear SM2 b10
            go_wp2_with fail
            go_ret
            exact ⟨rfl, below_next HBN.out (below_next HB9.out HB10.out)⟩
end Go.Proofs.Ytanhhgifcolfaaa
