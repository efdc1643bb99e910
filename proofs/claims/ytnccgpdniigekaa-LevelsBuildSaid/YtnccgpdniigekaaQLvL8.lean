/-
  The law: the levels over all keys.
-/
import Derived.Test.YtnccgpdniigekaaQLvRBldA
import Derived.Test.YtnccgpdniigekaaQLvSame
import Derived.Test.YtnccgpdniigekaaQLvOwn
namespace Go.Proofs.Ytnccgpdniigekaa
open Go.RowKit
set_option linter.unusedVariables false
set_option linter.unusedSimpArgs false
attribute [local go_sem high] run_store_float

theorem own_num8 {n c : Nat} (h : n + 1 ≤ c) : (0 : Int) ≤ (n : Int) ∧ (n : Int) ≤ (c : Int) ∧ ((n : Int)).toNat = n ∧ (n : Int) < ((n + 1 : Nat) : Int) ∧ (n : Int) < (n : Int) + 1 := by omega
theorem wrap_n8 {i n : Nat} (h : i < n) (hn : n ≤ 300) : wrap64 ((i : Int) + 1) = (i : Int) + 1 := by unfold wrap64; omega
theorem app_n8 {n : Nat} (hn : n ≤ 300) : n + 1 ≤ maxLen ∧ (n + 1) * 40 ≤ 140737488355328 ∧ n ≤ maxLen := by unfold maxLen; omega
theorem lt_n8 {n : Nat} : (n : Int) < (n : Int) + 1 ∧ (n : Int) < ((n + 1 : Nat) : Int) ∧ (0 : Int) ≤ (n : Int) := by omega
/-- What is kept while the answer is overwritten. -/
structure BW (w wo : World) (go : Nat) (K : List Int) (m : Nat) (Aa : Option Addr) (gs : List Nat) (LS : List (List Sg)) (A' : Option Addr) (i : Nat) (wx : World) : Prop where
  ow : 0 < LS.length → ∃ b, Aa = some ⟨b, 0, none⟩ ∧ b < m ∧ OWr wo b gs LS i wx
  want : ArgAb m wx A' LS
  own : OwnK w go K wx
theorem BW.below {w wo wx wy : World} {go m i : Nat} {K : List Int} {Aa A' : Option Addr} {gs : List Nat} {LS : List (List Sg)} (h : BW w wo go K m Aa gs LS A' i wx) (k : Below wx.heap.size wx wy) : BW w wo go K m Aa gs LS A' i wy :=
  ⟨fun h0 => by obtain ⟨b, e, hb, ho⟩ := h.ow h0; exact ⟨b, e, hb, ho.below k⟩, h.want.chg (Chg.of_below k) (fun _ _ h => h), h.own.below k⟩
theorem LLm.row_at8 {w0 w : World} {A : Option Addr} {n c : Nat} {gs : List Nat} {ll : List (List Sg)} (h : LLm w0 (.slice A n c) gs ll w) (hi : 0 < ll.length) : ∃ b, A = some ⟨b, 0, none⟩ ∧ True := by
  rcases h.row.2 with ⟨hv, h0⟩ | ⟨g, cap, cur, hv, hr⟩
  · omega
  · injection hv with e1 e2 e3
    exact ⟨g, e1, trivial⟩
theorem OwnK.chg {w wr wx : World} {g : Nat} {L : List Int} {S : Nat → Prop} (h : OwnK w g L wr) (C : Chg S wr wx) (hg : ¬ S g) (hS : ∀ k, S k → w.heap.size ≤ k) : OwnK w g L wx :=
  ⟨h.arg.chg C (fun g' o' e => by injection e with e; injection e with e1; subst e1; exact hg), below_chg h.bel C (fun k _ hk => hS k hk) h.bel.size⟩
theorem OwnK.lt {w wr : World} {g : Nat} {L : List Int} (h : OwnK w g L wr) : g < wr.heap.size := by
  obtain ⟨b, o, e, hb, _⟩ := h.arg (by simp)
  injection e with e
  injection e with e1
  subst e1; exact hb
theorem more_at {w : World} {g n cap : Nat} {xs : List Value} {a b c d e : Value} (h : w.ownsRow 0 33 5 (.slice (some ⟨g, 0, none⟩) (n + 1) cap) (n + 1) (xs ++ [a, b, c, d, e])) : w.cell? ⟨g, n * 5 + 3, none⟩ = some d ∧ n + 1 ≤ cap := by
  have hl : xs.length = n * 5 := by have := h.1; simp at this; omega
  have := World.ownsRow.cells h (g := g) rfl (n * 5 + 3) d (by rw [List.getElem?_append_right (by omega), hl]; simp)
  rw [Addr.add_mid, Nat.zero_add] at this
  obtain ⟨A', c', e1, e2⟩ := own_slice h
  injection e1 with _ _ e3
  exact ⟨this, by omega⟩

set_option maxHeartbeats 8000000 in
set_option maxRecDepth 100000 in
theorem lvBuild_walk (A : Option Addr) (c : Nat) (K : List Int) (hK : U64s K) (hn : K.length ≤ 17592186044416) (hc : K.length ≤ c) (eps : Int) (w : World) (hA : ArgU w A K) :
    Calls Try.prog 3 #[.slice A K.length c, .int .i64 eps] w fun e w' => e = .returned (.bool true) ∧ Below w.heap.size w w' := by
  have SH := shown8 w
  by_cases hbig : 300 < K.length
  · have g1 : (300 : Int) < (K.length : Int) := by omega
    clear hA hK hbig hn hc
    go_enter Try.func3, Try.ntmps3
    go_wp2_with fail
    refine SH.mono ?_
    rintro e w1 ⟨rfl, b1⟩
    have B1 := Lib.hid b1
    clear b1
    go_wp2_with fail
    go_ret
    exact ⟨rfl, B1.out⟩
  · have g1 : ¬ (300 : Int) < (K.length : Int) := by omega
    have h3 : K.length ≤ 300 := by omega
    have BL := Lib.hid (fun A' c' w' (hc' : K.length ≤ c') (h : ArgU w' A' K) => build_all eps A' c' K hK (by omega) hc' w' h)
    have RB := Lib.hid (fun w' (k : Below w.heap.size w w') => rbuild_all eps A c K hK (by omega) hc w' (hA.below k))
    obtain ⟨s1, s2⟩ := bld_lens (eps := eps) hK (by omega)
    have LL1 : ∀ l ∈ bldL eps K, l.length ≤ 300 := fun l hl => Nat.le_trans (s1 l hl).2 h3
    have LL2 : (bldL eps K).length ≤ 300 := Nat.le_trans s2 h3
    have HA := Lib.hid hA
    have H3 := Lib.hid h3
    obtain ⟨i0, hi, hz0, hz1, hz2⟩ := info_parts infoU
    obtain ⟨iS, hi5, hy0, hy1, hy2⟩ := info_parts infoS
    generalize bldL eps K = LS at *
    generalize bldC eps K = cd at *
    have HL1 := Lib.hid LL1
    have HL2 := Lib.hid LL2
    have SM := Lib.hid (fun A1 c1 A2 c2 w' h1 h2 => same8 A1 A2 c1 c2 LS LS (Nat.le_trans LL2 (by decide)) (fun l hl => Nat.le_trans (LL1 l hl) (by decide)) w' h1 h2)
    have cc : (cd != cd) = false := by simp
    have cc2 : (cd == cd) = true := by simp
    clear hA hK hbig hn hc s1 s2 LL1 LL2
    go_enter Try.func3, Try.ntmps3
    go_wp2_with fail
    refine SH.mono ?_
    rintro e w1 ⟨rfl, b1⟩
    have HB1 := Lib.hid b1
    clear SH b1
    have U0 := Lib.hid (Us.new HB1.out)
    have RD := Lib.hid (reads_u (c := c) (HA.out.below (below_new HB1.out (.cells #[] 24))))
    go_upto_region 7 with (first | (at_builtin; refine wpList_append_any _ rfl (.tmp 24) (.tmp 25) 22 (by rfl) 0 24 i0 _ 1 8 Try.underlying22 hi hz0 hz1 hz2 rfl (by omega) (.slice (some ⟨w1.heap.size, 0, none⟩) 0 0) 0 [] (by rfl) U0.out.1 _ A K.length c (K.map (Value.int .u64)) (by rfl) RD.out (ones_u K) (by unfold maxLen; omega) (by omega) (Nat.zero_le _) ?_; intro v1 wa hown hgr hat; have U1 := Lib.hid (U0.out.first hown hgr hat); clear hown hgr hat) | (at_builtin; refine wpList_append_lies _ rfl (.tmp 26) (.tmp 27) 22 (by rfl) 0 24 i0 _ 1 8 Try.underlying22 hi hz0 hz1 hz2 rfl (by omega) v1 K.length (K.map (Value.int .u64)) (by rfl) (U1.out.second _) ⟨wa.heap.size, 0, none⟩ 1 1 [.int .u64 77] (by rfl) (by rfl) (World.news_of_block (Blk.new wa 24 #[.int .u64 77])) ones_77 (by omega) (by unfold maxLen; omega) (by omega) (Nat.zero_le _) (wa.heap.size + 1) (by simp) ?_; intro go capo wo hown hgr hat hlt; have U2 := Lib.hid (U1.out.grown' rfl hown hgr hat); clear hown hgr hat hlt))
    have hcapo : K.length + 1 ≤ capo := by have := U2.out.cap; simpa using this
    have OK0 : Hid (OwnK w go K wo) := Lib.hid ⟨U2.out.arg', U2.out.2.2⟩
    have HCP := Lib.hid hcapo
    obtain ⟨k0, k1, k2, k3, k4⟩ := own_num8 hcapo
    clear U0 U1 RD U2
    have E5 := BL.out (some ⟨go, 0, none⟩) capo wo (Nat.le_of_succ_le hcapo) OK0.out.arg.left
    go_wp2_with fail
    refine E5.mono ?_
    rintro e w5 ⟨va, gs, rfl, hL5⟩
    obtain ⟨Aa, ca, rfl, _⟩ := hL5.arg
    have L5 := Lib.hid hL5
    have OK5 := Lib.hid (OK0.out.below hL5.bel)
    clear E5 hL5
    go_wp2_with fail
    refine (RB.out _ OK5.out.bel).mono ?_
    rintro e w6 ⟨Aw, cw, rfl, hW, b6⟩
    have L6 := Lib.hid (L5.out.below b6)
    obtain ⟨Ax, cx, ex, hx6⟩ := L6.out.arg
    injection ex with ex1 ex2 ex3
    subst ex1 ex3
    have W6 : Hid (BW w wo go K w5.heap.size Aa gs LS Aw 0 w6) := Lib.hid ⟨fun h0 => by
      obtain ⟨b, e1, _⟩ := L6.out.row_at8 h0
      subst e1
      refine ⟨b, rfl, ?_, L6.out.ow⟩
      exact own_lt L5.out.row rfl, hW, OK5.out.below b6⟩
    have E7 := SM.out _ ca _ cw w6 hx6 hW.ss
    have GLT := Lib.hid L5.out.lt
    clear RB b6 hx6 hW L6
    go_wp2_with fail
    refine E7.mono ?_
    rintro e w7 ⟨t, rfl, ht, b7⟩
    obtain rfl : t = true := ht.2 rfl
    have W7 : Hid (BW w wo go K w5.heap.size Aa gs LS Aw 0 w7) := Lib.hid (W6.out.below b7)
    clear E7 ht b7 W6
    have h77 := W7.out.own.mark
    go_wp2_with fail
    go_loopw [11] (fun x wr => ∃ i : Nat, i ≤ K.length ∧ x = .int .i64 i ∧ Hid (BW w wo go K w5.heap.size Aa gs LS Aw 0 wr)) (fun x _ => K.length - (intOf x).toNat)
    case atStart => exact ⟨0, Nat.zero_le _, rfl, W7⟩
    case round =>
      obtain ⟨i, hi', rfl, I⟩ := hrel
      clear h77
      by_cases hlt : i < K.length
      · have i0' : (0 : Int) ≤ (i : Int) := Int.natCast_nonneg i
        have i1 : (i : Int) < (K.length : Int) := Int.ofNat_lt.2 hlt
        have i2 : (i : Int) < (K.length : Int) + 1 := Int.lt_trans i1 k4
        obtain ⟨kb, ko, rfl, hb2, z2⟩ := (HA.out.below I.out.own.bel).at hlt
        have z1 := I.out.own.at_ hlt
        obtain ⟨x, hx⟩ : ∃ x, K[i] = x := ⟨_, rfl⟩
        rw [hx] at z1 z2
        have v1 := wrap_n8 hlt H3.out
        clear hx hb2
        go_wp2_with fail
        go_quiet (fail)
        have I9 := Lib.hid (I.out.below (drewN_below (Below.refl _ _) nq))
        go_wp2_with fail
        go_roundw
        case rel => exact ⟨i + 1, Nat.succ_le_of_lt hlt, (by first | (rw [v1]; rfl) | rfl), I9⟩
        case measure => first | (rw [v1]; exact meas_next hlt) | exact meas_next hlt
      · obtain rfl : i = K.length := Nat.le_antisymm hi' (Nat.le_of_not_lt hlt)
        have i1 : ¬ (K.length : Int) < (K.length : Int) := Int.lt_irrefl _
        clear hlt W7
        go_wp2_with fail
        go_loopw [12] (fun x wx => ∃ j : Nat, j ≤ LS.length ∧ x = .int .i64 j ∧ Hid (BW w wo go K w5.heap.size Aa gs LS Aw j wx)) (fun x _ => LS.length - (intOf x).toNat)
        case atStart => exact ⟨0, Nat.zero_le _, rfl, I⟩
        case round =>
          obtain ⟨wi, rfl⟩ : ∃ wi : World, wi = wr := ⟨_, rfl⟩
          obtain ⟨j, hj', rfl, M⟩ := hrel
          by_cases hjl : j < LS.length
          · have j0 : (0 : Int) ≤ (j : Int) := Int.natCast_nonneg j
            have j1 : (j : Int) < (LS.length : Int) := Int.ofNat_lt.2 hjl
            obtain ⟨ba, rfl, hba, hO⟩ := M.out.ow (Nat.lt_of_le_of_lt (Nat.zero_le _) hjl)
            have HLl := HL1.out _ (mem_getD (z := []) hjl rfl)
            have LW := Lib.hid (fun (wx : World) (h : OWr wo ba gs LS j wx) => h.at_ hjl)
            have LC := Lib.hid (fun (wx : World) (h : OWr wo ba gs LS j wx) k hk => h.cells hjl (k := k) hk)
            have LP := Lib.hid (fun (wx : World) (h : OWr wo ba gs LS j wx) k => h.write hjl (k * 5) (.int .u64 0) (.float .f64 0) (.float .f64 0) (.int .i64 (-9)) (.int .i64 0))
            have LO := Lib.hid (fun (wx : World) (h : OWr wo ba gs LS j wx) => h.own hjl (app_n8 HLl).2.2)
            have LT := Lib.hid (fun (wx wy : World) (h : OWr wo ba gs LS j wx) C => h.past (wx := wy) hjl C)
            have GJ := Lib.hid (GLT.out _ (mem_gsr hO hjl))
            have GE := Lib.hid (hO.new _ (mem_gsr hO hjl))
            obtain ⟨gi, hgi⟩ : ∃ gi, gs.getD j 0 = gi := ⟨_, rfl⟩
            obtain ⟨l, hl⟩ : ∃ l, LS.getD j [] = l := ⟨_, rfl⟩
            rw [hgi] at LW LC LP LO LT GJ GE
            rw [hl] at HLl LW LC LO LT
            have X0 : Hid (OWr wo ba gs LS j wi ∧ ArgAb w5.heap.size wi Aw LS ∧ OwnK w go K wi) := Lib.hid ⟨hO, M.out.want, M.out.own⟩
            have HBA := Lib.hid hba
            have HJL := Lib.hid hjl
            have HLL := Lib.hid HLl
            have OGE := Lib.hid (Nat.le_trans OK0.out.bel.size GE.out)
            have NGO : Hid (¬ go = gi) := Lib.hid (fun e => by have := OK0.out.lt; have := GE.out; omega)
            have v0 := wrap_n8 hjl HL2.out
            obtain ⟨xa, xf⟩ := LW.out _ X0.out.1
            clear hO hba hgi hl M hjl
            go_wp2_with fail
            go_loopw [13] (fun x wx => ∃ k : Nat, k ≤ l.length ∧ x = .int .i64 k ∧ Hid (OWr wo ba gs LS j wx ∧ ArgAb w5.heap.size wx Aw LS ∧ OwnK w go K wx)) (fun x _ => l.length - (intOf x).toNat)
            case atStart => exact ⟨0, Nat.zero_le _, rfl, X0⟩
            case round =>
              obtain ⟨wk, rfl⟩ : ∃ wk : World, wk = wr := ⟨_, rfl⟩
              obtain ⟨k, hk', rfl, J⟩ := hrel
              clear X0 xa xf
              obtain ⟨xa, xf⟩ := LW.out _ J.out.1
              by_cases hkl : k < l.length
              · have q0 : (0 : Int) ≤ (k : Int) := Int.natCast_nonneg k
                have q1 : (k : Int) < (l.length : Int) := Int.ofNat_lt.2 hkl
                obtain ⟨dd, ff⟩ := LC.out _ J.out.1 k hkl
                obtain ⟨u0, d0⟩ := dd 0 (by decide)
                obtain ⟨u1, d1⟩ := dd 1 (by decide)
                obtain ⟨u2, d2⟩ := dd 2 (by decide)
                obtain ⟨u3, d3⟩ := dd 3 (by decide)
                obtain ⟨u4, d4⟩ := dd 4 (by decide)
                have f0 := ff (k * 5); have f1 := ff (k * 5 + 1); have f2 := ff (k * 5 + 2); have f3 := ff (k * 5 + 3); have f4 := ff (k * 5 + 4)
                have v1 := wrap_n8 hkl HLL.out
                have C5 := (((((Chg.refl (fun j => j = gi) wk).setCell (p := ⟨gi, k * 5, none⟩) (fun _ => rfl) (.int .u64 0)).setCell (p := ⟨gi, k * 5 + 1, none⟩) (fun _ => rfl) (.float .f64 0)).setCell (p := ⟨gi, k * 5 + 2, none⟩) (fun _ => rfl) (.float .f64 0)).setCell (p := ⟨gi, k * 5 + 3, none⟩) (fun _ => rfl) (.int .i64 (-9))).setCell (p := ⟨gi, k * 5 + 4, none⟩) (fun _ => rfl) (.int .i64 0)
                have N5 := Lib.hid (And.intro (LP.out _ J.out.1 k) (And.intro (J.out.2.1.chg C5 (fun g hg hk => by have := GJ.out; omega)) (J.out.2.2.chg C5 NGO.out (fun k hk => by rw [hk]; exact OGE.out))))
                simp only [Nat.add_zero] at d0
                clear dd ff C5
                go_wp2_with fail
                go_roundw
                case rel => exact ⟨k + 1, Nat.succ_le_of_lt hkl, (by first | (rw [v1]; rfl) | rfl), N5⟩
                case measure => first | (rw [v1]; exact meas_next hkl) | exact meas_next hkl
              · obtain rfl : k = l.length := Nat.le_antisymm hk' (Nat.le_of_not_lt hkl)
                have q1 : ¬ (l.length : Int) < (l.length : Int) := Int.lt_irrefl _
                obtain ⟨xs, hown0⟩ := LO.out _ J.out.1
                have HO1 : Hid ((wk.alloc (.cells #[.int .u64 0, .float .f64 0, .float .f64 0, .int .i64 (-8), .int .i64 0] 33)).ownsRow 0 33 5 (.slice (some ⟨gi, 0, none⟩) l.length l.length) l.length xs) := Lib.hid (own_chg hown0 ((Chg.refl (fun _ => False) wk).alloc _) (fun _ _ h => h))
                have HFO := Lib.hid (scells_one 0 0 0 (-8) 0)
                obtain ⟨AB1, AB2, _⟩ := app_n8 HLL.out
                obtain ⟨q2, q3, q4⟩ := lt_n8 (n := l.length)
                clear hown0 hkl
                go_upto_region 24 with (at_builtin; go_loud (refine wpList_append_lies _ rfl (.tmp 101) (.tmp 103) 30 (by rfl) 0 33 iS _ 5 40 Try.underlying30 hi5 hy0 hy1 hy2 rfl (Nat.succ_pos 4) (.slice (some ⟨gi, 0, none⟩) l.length l.length) l.length xs (by rfl) HO1.out ⟨wk.heap.size, 0, none⟩ 1 1 [.int .u64 0, .float .f64 0, .float .f64 0, .int .i64 (-8), .int .i64 0] (by rfl) (by rfl) (World.news_of_block (Blk.new wk 33 #[.int .u64 0, .float .f64 0, .float .f64 0, .int .i64 (-8), .int .i64 0])) HFO.out Nat.one_pos AB1 AB2 (Nat.zero_le _) (wk.heap.size + 1) (by simp) ?_; intro gn capn wn hown hgr hat hltn; have HM := Lib.hid (more_at hown); have HC := Lib.hid (((Chg.refl (fun j => j = gi) wk).alloc _).grown hgr (fun k hk _ => by simp [Value.ownBlock] at hk; exact hk.symm)); clear hown hgr hat hltn))
                obtain ⟨P1, P2, P3⟩ := LT.out _ wn J.out.1 HC.out
                have HP := Lib.hid P1
                have WN := Lib.hid (J.out.2.1.chg HC.out (fun g hg hk => by have := GJ.out; omega))
                have KN := Lib.hid (J.out.2.2.chg HC.out NGO.out (fun k hk => by rw [hk]; exact OGE.out))
                obtain ⟨m1, m2⟩ := HM.out
                have hbl := cell_lt P2
                clear P1 xa xf HC HO1
                go_upto_region 26 with fail
                have NX : Hid (∀ v, BW w wo go K w5.heap.size (some ⟨ba, 0, none⟩) gs LS Aw (j + 1) (wn.setCell ⟨ba, j, none⟩ v)) := Lib.hid (fun v => by
                  have CB := (Chg.refl (fun k => k = ba) wn).setCell (p := ⟨ba, j, none⟩) (fun _ => rfl) v
                  have hge := HP.out.ge
                  exact ⟨fun _ => ⟨ba, rfl, HBA.out, HP.out.strike v⟩, WN.out.chg CB (fun g hg hk => by have := HBA.out; omega), KN.out.chg CB (fun e => by have := OK0.out.lt; have : go = ba := e; omega) (fun k hk => by have : k = ba := hk; have := OK0.out.bel.size; omega)⟩)
                go_wp2_with fail
                go_roundw
                case rel => exact ⟨j + 1, Nat.succ_le_of_lt HJL.out, (by first | (rw [v0]; rfl) | rfl), Lib.hid ((NX.out _).below (below_new (Below.refl _ _) _))⟩
                case measure => first | (rw [v0]; exact meas_next HJL.out) | exact meas_next HJL.out
          · obtain rfl : j = LS.length := Nat.le_antisymm hj' (Nat.le_of_not_lt hjl)
            have j1 : ¬ (LS.length : Int) < (LS.length : Int) := Int.lt_irrefl _
            have E8 := BL.out (some ⟨go, 0, none⟩) capo wi (Nat.le_of_succ_le HCP.out) M.out.own.arg.left
            go_wp2_with fail
            refine E8.mono ?_
            rintro e w8 ⟨vb, gb, rfl, hL8⟩
            obtain ⟨Ab, cb, rfl, hb8⟩ := hL8.arg
            have M8 := Lib.hid (M.out.below hL8.bel)
            have E9 := SM.out _ cb _ cw w8 hb8 M8.out.want.ss
            clear E8 hL8 hb8
            go_wp2_with fail
            refine E9.mono ?_
            rintro e w9 ⟨t, rfl, ht, b9⟩
            obtain rfl : t = true := ht.2 rfl
            have B9 := Lib.hid (below_next M8.out.own.bel b9)
            clear E9 ht b9
            go_wp2_with fail
            go_ret
            exact ⟨rfl, B9.out⟩
end Go.Proofs.Ytnccgpdniigekaa
