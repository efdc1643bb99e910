/-
  The reference's keys of a level.
-/
import Derived.Test.YtnccgpdniigekaaQG35
import Derived.Laws.StructEq
namespace Go.Proofs.Ytnccgpdniigekaa
open Go.RowKit
set_option linter.unusedVariables false
set_option linter.unusedSimpArgs false
attribute [local go_sem high] run_store_float

theorem FR.none (w : World) : FR w (.slice none 0 0) [] w := ⟨⟨rfl, .inl ⟨rfl, rfl⟩⟩, fun g hg => by simp [Value.ownBlock] at hg, Below.refl _ _⟩
set_option maxHeartbeats 4000000 in
set_option maxRecDepth 100000 in
theorem keysOf_any (AK : Option Addr) (cK : Nat) (K : List Int) (AL : Option Addr) (cL : Nat) (ll : List (List Sg)) (hnl : ll.length ≤ 17592186044416) (hns : ∀ l ∈ ll, l.length ≤ 17592186044416) {L : Nat} (hL : L < ll.length) (w : World) (hK : ArgU w AK K) (hS : ArgSS w AL ll) :
    Calls Try.prog 58 #[.slice AK K.length cK, .slice AL ll.length cL, .int .i64 (L : Int)] w fun e w' => ∃ A c, e = .returned (.slice A (keysAt K ll L).length c) ∧ ArgU w' A (keysAt K ll L) ∧ Below w.heap.size w w' ∧ ((L = 0 ∧ A = AK) ∨ ∀ g o, A = some ⟨g, o, none⟩ → w.heap.size ≤ g) := by
  obtain ⟨iu, hiu, hu0, hu1, hu2⟩ := info_parts infoU
  cases L with
  | zero =>
    have HK := Lib.hid hK
    clear hK hS hnl hns hL
    show Calls _ _ #[.slice AK K.length cK, .slice AL ll.length cL, .int .i64 0] _ _
    go_enter Try.func58, Try.ntmps58
    go_wp2_with fail
    go_ret
    exact ⟨AK, cK, by rw [keysAt_zero]; rfl, by rw [keysAt_zero]; exact HK.out, Below.refl _ _, by first | exact .inl ⟨rfl, rfl⟩ | simp⟩
  | succ L =>
    have hL0 : L < ll.length := Nat.lt_of_succ_lt hL
    have z1 : (((L : Int) + 1) == 0) = false := by rw [beq_eq_false_iff_ne]; omega
    have z1' : (((L + 1 : Nat) : Int) == 0) = false := by rw [beq_eq_false_iff_ne]; omega
    have z2 : (((L + 1 : Nat) : Int) - 1) = (L : Int) := by omega
    have z3 : wrap64 (L : Int) = (L : Int) := by unfold wrap64; omega
    have z4 : (0 : Int) ≤ (L : Int) := by omega
    have z5 : (L : Int) < (ll.length : Int) := by omega
    obtain ⟨b, o, rfl, hb, hc⟩ := hS (Nat.lt_of_le_of_lt (Nat.zero_le _) hL0)
    obtain ⟨A', c', x0, hs⟩ := hc L hL0
    have KA := Lib.hid (keysAt_succ K ll L)
    have LN := hns (ll.getD L []) (mem_getD (z := []) hL0 rfl)
    obtain ⟨l, hl⟩ : ∃ l, ll.getD L [] = l := ⟨_, rfl⟩
    rw [hl] at x0 hs LN KA
    have X := Lib.hid (And.intro hb (And.intro x0 hs))
    have LLN := Lib.hid LN
    clear hK hS hnl hns hL hL0 hb hc x0 hs hl LN
    have e0 : ((L + 1 : Nat) : Int) = (L : Int) + 1 := by omega
    have z6 : (L : Int) + 1 - 1 = (L : Int) := by omega
    rw [e0]
    clear z1' z2 e0
    have F0 := Lib.hid (FR.none w)
    go_enter Try.func58, Try.ntmps58
    go_wp2_with fail
    go_loopw [7, 8] (fun v x wx => ∃ k : Nat, k ≤ l.length ∧ x = .int .i64 k ∧ Hid (FR w v ((firstsL l).take k) wx)) (fun _ x _ => l.length - (intOf x).toNat)
    case atStart => exact ⟨0, Nat.zero_le _, rfl, F0⟩
    case round =>
      obtain ⟨k, hk', rfl, J⟩ := hrel
      clear F0
      have xa := (J.out.bel.cell (p := ⟨b, o + L, none⟩) X.out.1).trans X.out.2.1
      by_cases hkl : k < l.length
      · have k0 : (0 : Int) ≤ (k : Int) := by omega
        have k1 : (k : Int) < (l.length : Int) := by omega
        obtain ⟨b2, o2, rfl, hb2, hc2⟩ := X.out.2.2 (Nat.lt_of_le_of_lt (Nat.zero_le _) hkl)
        have t0 := ((hc2 k hkl).below J.out.bel hb2).1
        obtain ⟨s, hs⟩ : ∃ s, l.getD k zS = s := ⟨_, rfl⟩
        have TK := Lib.hid (firsts_take hkl hs)
        have LT : ((firstsL l).take k).length = k := by rw [List.length_take, firsts_len]; omega
        have hl2 := LLN.out
        obtain ⟨Lk, hLk⟩ : ∃ Lk, (firstsL l).take k = Lk := ⟨_, rfl⟩
        rw [hLk] at J TK LT
        have LN : Lk.length + 1 ≤ 17592186044416 := by omega
        have v4 : wrap64 ((k : Int) + 1) = (k : Int) + 1 := by unfold wrap64; omega
        rw [hs] at t0
        obtain ⟨f, hf⟩ : ∃ f, s.first = f := ⟨_, rfl⟩
        rw [hf] at t0 TK
        have HO1 : Hid ((wr.alloc (.cells #[.int .u64 f] 24)).ownsRow 0 24 1 u7 Lk.length (Lk.map (Value.int .u64))) := Lib.hid (own_chg J.out.own ((Chg.refl (fun _ => False) wr).alloc _) (fun _ _ h => h))
        have HFO : Hid (∀ u ∈ ([.int .u64 f] : List Value), u.oneCell' = true) := Lib.hid (by intro u hu; simp at hu; rcases hu with rfl; rfl)
        clear hc2 hs hf hLk LT hl2 hb2
        go_wp2_with (at_builtin; go_loud (refine wpList_append_lies _ rfl (.tmp 22) (.tmp 32) 22 (by rfl) 0 24 iu _ 1 8 Try.underlying22 hiu hu0 hu1 hu2 rfl (by omega) u7 Lk.length (Lk.map (Value.int .u64)) (by rfl) HO1.out ⟨wr.heap.size, 0, none⟩ 1 1 [.int .u64 f] (by rfl) (by rfl) (World.news_of_block (Blk.new wr 24 #[.int .u64 f])) HFO.out (by omega) (by unfold maxLen; omega) (by omega) (Nat.zero_le _) (wr.heap.size + 1) (by simp) ?_; intro gn capn wn hown hgr hat hltn; have HG2 := Lib.hid (J.out.grown rfl hown hgr hat); clear hown hgr hat hltn))
        go_roundw
        case rel => exact ⟨k + 1, Nat.succ_le_of_lt hkl, (by first | rfl | (rw [v4]; rfl)), by rw [← TK.out]; exact HG2⟩
        case measure => first | (rw [v4]; exact meas_next hkl) | exact meas_next hkl
      · obtain rfl : k = l.length := by omega
        have k1 : ¬ (l.length : Int) < (l.length : Int) := by omega
        have TA : (firstsL l).take l.length = firstsL l := List.take_of_length_le (by rw [firsts_len]; exact Nat.le_refl _)
        rw [TA] at J
        clear TA hkl
        go_wp2_with fail
        go_ret
        obtain ⟨A3, c3, e3, hA3, _⟩ := J.out.arg
        exact ⟨A3, ⟨c3, by rw [KA.out, ← e3]; rfl⟩, by rw [KA.out]; exact hA3, J.out.bel, by first | exact .inr fun g o e => J.out.new g (by rw [e3, e]; rfl) | exact fun g o e => J.out.new g (by rw [e3, e]; rfl)⟩
end Go.Proofs.Ytnccgpdniigekaa
/-
  The reference's Path and Find.
-/
namespace Go.Proofs.Ytnccgpdniigekaa
open Go.RowKit
set_option linter.unusedVariables false
set_option linter.unusedSimpArgs false
attribute [local go_sem high] run_store_float

section
variable {eps : Int} {K : List Int} {ll : List (List Sg)} {q : Int} {w wr wx : World}
/-- The visits gathered down to level m. -/
structure RP (w : World) (eps : Int) (K : List Int) (ll : List (List Sg)) (q : Int) (v : Value) (m : Nat) (wr : World) : Prop where
  own : wr.ownsRow w.heap.size 69 6 v (ll.length - m) (vflat (visL eps K ll q m))
  bel : Below w.heap.size w wr
theorem RP.start (w : World) : RP w eps K ll q (.slice none 0 0) ll.length w := ⟨by rw [visL_top, Nat.sub_self]; exact ⟨rfl, .inl ⟨rfl, rfl⟩⟩, Below.refl _ _⟩
theorem RP.next {v : Value} {L : Nat} {V : Array Value} {o : Obj} {wn : World} {g cap n : Nat} (h : RP w eps K ll q v (L + 1) wr) (hL : L < ll.length) (k : Below wr.heap.size wr wx) (hV : visS eps K ll q L = V) (hn : ll.length - (L + 1) = n)
    (hown : wn.ownsRow 0 69 6 (.slice (some ⟨g, 0, none⟩) (n + 1) cap) (n + 1) (vflat (visL eps K ll q (L + 1)) ++ V.toList)) (hgr : (wx.alloc o).grownBy wn v.ownBlock) (hat : v.ownBlock = some g ∨ g = wx.heap.size + 1) :
    RP w eps K ll q (.slice (some ⟨g, 0, none⟩) (n + 1) cap) L wn := by
  subst hV hn
  have C : Chg (fun k => v.ownBlock = some k) wr wn := (((Chg.of_below k).mono (fun _ _ h => h.elim)).alloc o).grown hgr (fun k hk _ => hk)
  have hs := h.bel.size
  have hs2 := k.size
  refine ⟨?_, below_chg h.bel C (fun k _ hk => (h.own.lt k hk).1) hs⟩
  have e : ll.length - L = ll.length - (L + 1) + 1 := by omega
  rw [e, ← visL_step eps K ll q hL, vflat_snoc]
  refine own_mono hown (fun g' hg' => ?_)
  simp only [Value.ownBlock, Option.some.injEq] at hg'
  subst hg'
  rcases hat with m | m
  · exact (h.own.lt _ m).1
  · omega
theorem win_wrap {G eps : Int} (h : 0 ≤ G ∧ G ≤ 4294967296) (h1 : 2 ≤ eps) (h2 : eps ≤ 64) : wrap64 (G - eps) = G - eps ∧ wrap64 (G - eps - 1) = G - eps - 1 ∧ wrap64 (G + eps) = G + eps ∧ wrap64 (G + eps + 1) = G + eps + 1 := by
  refine ⟨?_, ?_, ?_, ?_⟩ <;> (unfold wrap64; omega)
/-- While a visit's Rank is looked for. -/
structure VW (w0 : World) (g v : Nat) (a0 : Int) (a1 a2 : Nat) (pp t : Int) (L sl : Int) (G lo hi : Int) (r : Nat) (wx : World) : Prop where
  seg : Blk wx g 33 #[.int .u64 a0, .float .f64 a1, .float .f64 a2, .int .i64 pp, .int .i64 t]
  vis : Blk wx v 69 #[.int .i64 L, .int .i64 sl, .int .i64 G, .int .i64 lo, .int .i64 hi, .int .i64 (r : Int)]
  ge : w0.heap.size ≤ v
  bel : Below w0.heap.size w0 wx
theorem VW.step {w0 : World} {g v : Nat} {a0 : Int} {a1 a2 : Nat} {pp t : Int} {L sl : Int} {G lo hi : Int} {r r' : Nat} (h : VW w0 g v a0 a1 a2 pp t L sl G lo hi r wx) : VW w0 g v a0 a1 a2 pp t L sl G lo hi r' (wx.setCell ⟨v, 5, none⟩ (.int .i64 (r' : Int))) :=
  ⟨h.seg.far _ (fun e => by have := e; simp only [] at this; subst this; exact absurd (Blk.uniq h.seg h.vis).1 (by decide)), h.vis.set 5 _, h.ge, h.bel.setCell h.ge _⟩
theorem VW.grown {w0 : World} {g v : Nat} {a0 : Int} {a1 a2 : Nat} {pp t : Int} {L sl : Int} {G lo hi : Int} {r : Nat} {u : Value} {o : Obj} {wn : World} (h : VW w0 g v a0 a1 a2 pp t L sl G lo hi r wx) (hgr : (wx.alloc o).grownBy wn u.ownBlock) (h1 : u.ownBlock ≠ some g) (h2 : u.ownBlock ≠ some v) :
    wn.cell? ⟨g, 3, none⟩ = some (.int .i64 pp) ∧ wn.cell? ⟨g, 4, none⟩ = some (.int .i64 t) ∧ wn.cell? ⟨v, 5, none⟩ = some (.int .i64 (r : Int)) := by
  have C : Chg (fun k => u.ownBlock = some k) wx wn := ((Chg.refl _ wx).alloc o).grown hgr (fun k hk _ => hk)
  have b1 := h.seg.chg C h1
  have b2 := h.vis.chg C h2
  exact ⟨b1.cell 3, b1.cell 4, b2.cell 5⟩
theorem len_vis {n : Nat} (h : n ≤ 4294967296) : n + 1 ≤ maxLen ∧ (n + 1) * 48 ≤ 140737488355328 := by unfold maxLen; omega
theorem wrap_suc {n m : Nat} (h : n < m) (h2 : m ≤ 17592186044416) : wrap64 ((n : Int) + 1) = ((n + 1 : Nat) : Int) := by unfold wrap64; omega
theorem meas_rank {w1 w2 : World} {v r hi : Nat} (h1 : w1.cell? ⟨v, 5, none⟩ = some (.int .i64 (r : Int))) (h2 : w2.cell? ⟨v, 5, none⟩ = some (.int .i64 ((r + 1 : Nat) : Int))) (hr : r < hi) : hi - (intOf ((w2.cell? ⟨v, 5, none⟩).getD undef)).toNat < hi - (intOf ((w1.cell? ⟨v, 5, none⟩).getD undef)).toNat := by
  rw [h1, h2]
  show hi - (r + 1) < hi - r
  omega
set_option maxHeartbeats 40000000 in
set_option maxRecDepth 100000 in
theorem refPath_any (hR : RightL eps K ll) (hq : u64ok q) (AK : Option Addr) (cK : Nat) (AL : Option Addr) (cL : Nat) (w : World) (hK : ArgU w AK K) (hS : ArgSS w AL ll) :
    Calls Try.prog 32 #[.slice AK K.length cK, .int .i64 eps, .slice AL ll.length cL, .int .u64 q] w fun e w' => ∃ v, e = .returned v ∧ RP w eps K ll q v 0 w' := by
  obtain ⟨iv, hiv, hv0, hv1, hv2⟩ := info_parts infoV
  have HR := Lib.hid hR
  have HK := Lib.hid hK
  have HS := Lib.hid hS
  have HQ := Lib.hid hq
  have P0 := Lib.hid (RP.start (eps := eps) (K := K) (ll := ll) (q := q) w)
  have hl : wrap64 ((ll.length : Int) - 1) = (ll.length : Int) - 1 := by have := hR.nl; unfold wrap64; omega
  clear hR hK hS hq
  go_enter Try.func32, Try.ntmps32
  go_wp2_with fail
  have HLW := Lib.hid hl
  clear hl
  go_loopw [9, 10, 11] (fun v x y wr => ∃ m : Nat, m ≤ ll.length ∧ y = .int .i64 ((m : Int) - 1) ∧ (0 < m → x = .int .i64 (slotAt K ll q (m - 1) : Nat)) ∧ Hid (RP w eps K ll q v m wr)) (fun _ _ y _ => (intOf y + 1).toNat)
  case atStart => exact ⟨ll.length, Nat.le_refl _, by rw [HLW.out], fun h => by unfold slotAt; rw [if_pos (by omega)]; rfl, P0⟩
  case round =>
    obtain ⟨m, hm, rfl, hx, I⟩ := hrel
    clear P0
    cases m with
    | zero =>
      have n0 : ¬ (0 : Int) ≤ ((0 : Nat) : Int) - 1 := by decide
      clear hx
      go_wp2_with fail
      go_ret
      exact ⟨_, rfl, I.out⟩
    | succ L =>
      have hL : L < ll.length := hm
      obtain rfl := hx (Nat.succ_pos _)
      simp only [Nat.add_sub_cancel]
      have ST := HR.out.stands q hL
      obtain ⟨pp, lo, hi, t, d1, d2, d3, d4, d5, d6, d7, d8, d9, d10, d11, d12, d13⟩ := desc_step (HR.out.lev L hL) HR.out.e1 HR.out.e2 HQ.out ST
      have KP : Hid (0 < (keysAt K ll L).length) := Lib.hid (by obtain ⟨p, t', _, _, _, _, h1, h2, _⟩ := (HR.out.lev L hL).at_ ST.lt; exact Nat.lt_of_le_of_lt (Nat.zero_le _) (Nat.lt_of_lt_of_le h1 h2))
      have OKS := (HR.out.lev L hL).sg ((ll.getD L []).getD (slotAt K ll q L) zS) (mem_getD ST.lt rfl)
      have CG := fun w' => refGuess_any _ OKS q HQ.out w'
      have VIS : Hid (visS eps K ll q L = #[.int .i64 (L : Int), .int .i64 (slotAt K ll q L : Nat), .int .i64 (guess ((ll.getD L []).getD (slotAt K ll q L) zS) q), .int .i64 (lo : Int), .int .i64 (hi : Int), .int .i64 (belowN (keysAt K ll L) q (keysAt K ll L).length : Nat)]) := Lib.hid (by unfold visS loI hiI sgAt rankI; rw [d2, d3])
      have SPL := Lib.hid (belowN_split (HR.out.lev L hL).up q (Nat.le_refl (keysAt K ll L).length))
      have HAS := Lib.hid (fun hh => has_at (HR.out.lev L hL).up (q := q) hh)
      have HOF := Lib.hid (fun i hi e => hasN_of (K := keysAt K ll L) (q := q) (n := (keysAt K ll L).length) (i := i) hi e)
      have KO := fun w' h1 h2 => keysOf_any AK cK K AL cL ll (Nat.le_trans HR.out.nl (by decide)) HR.out.ns hL w' h1 h2
      have HEE := Lib.hid (And.intro HR.out.e1 HR.out.e2)
      have LNL := HR.out.nl
      have HLL := Lib.hid hL
      have KLN := HR.out.len L
      obtain ⟨sb, so, rfl, hsb, hsc⟩ := HS.out (Nat.lt_of_le_of_lt (Nat.zero_le _) hL)
      obtain ⟨A1, c1, xl, hsg⟩ := hsc L hL
      obtain ⟨b1, o1, rfl, hb1, hs1⟩ := hsg (Nat.lt_of_le_of_lt (Nat.zero_le _) ST.lt)
      have xa := (I.out.bel.cell (p := ⟨sb, so + L, none⟩) hsb).trans xl
      obtain ⟨x0, x1, x2, x3, x4⟩ := (hs1 _ ST.lt).below I.out.bel hb1
      have SLT := ST.lt
      obtain ⟨sl, hsl⟩ : ∃ sl, slotAt K ll q L = sl := ⟨_, rfl⟩
      obtain ⟨KL, hKL⟩ : ∃ KL, keysAt K ll L = KL := ⟨_, rfl⟩
      obtain ⟨b, hb⟩ : ∃ b, belowN KL q KL.length = b := ⟨_, rfl⟩
      obtain ⟨T, hT⟩ : ∃ T, hasN KL q KL.length = T := ⟨_, rfl⟩
      have HK0 : Hid (L = 0 → KL = K) := Lib.hid (by rintro rfl; rw [← hKL, keysAt_zero])
      rw [hKL] at d7 d8 d9 d10 d11 d12 VIS SPL HAS HOF KO KLN KP
      rw [hb] at d8 d10 d11 d12 VIS SPL HAS
      rw [hT] at d9 d10 HAS HOF
      have HT9 : Hid (decide (b < t ∧ KL.getD b 0 = q) = T) := Lib.hid (by rw [← d9]; unfold lookT; rw [d8])
      rw [hsl] at d1 d2 d3 d4 CG VIS x0 x1 x2 x3 x4 SLT ⊢
      have HSL : Hid (∀ w2 : Bool, 0 < L → w2 = T → (if w2 = true then b else b - 1) = slotAt K ll q (L - 1)) := Lib.hid (by
        intro w2 h0 e
        rw [slotAt_down (by omega), show L - 1 + 1 = L by omega, hKL]
        unfold slotN
        rw [hT, hb, e])
      obtain ⟨l, hll⟩ : ∃ l, ll.getD L [] = l := ⟨_, rfl⟩
      rw [hll] at d1 d2 d3 d4 CG VIS x0 x1 x2 x3 x4 SLT xa
      obtain ⟨s, hs⟩ : ∃ s, l.getD sl zS = s := ⟨_, rfl⟩
      rw [hs] at CG d1 d2 d3 d4 VIS x0 x1 x2 x3 x4
      have GB := guess_bounds s q
      obtain ⟨G, hG⟩ : ∃ G, guess s q = G := ⟨_, rfl⟩
      rw [hG] at CG d2 d3 GB VIS
      obtain ⟨a0, a1, a2, a3, a4⟩ := s
      unfold Sg.v at CG
      simp only [] at CG d1 d2 d3 d4 x0 x1 x2 x3 x4
      subst d1 d4
      have v1 : wrap64 (((L + 1 : Nat) : Int) - 1) = (L : Int) := by unfold wrap64; omega
      have n1 : (0 : Int) ≤ ((L + 1 : Nat) : Int) - 1 := by omega
      have e0 : ((L + 1 : Nat) : Int) - 1 = (L : Int) := by omega
      rw [e0]
      have n2 : (0 : Int) ≤ (L : Int) := Int.natCast_nonneg L
      have n3 : (L : Int) < (ll.length : Int) := Int.ofNat_lt.2 hL
      have n4 : (0 : Int) ≤ (sl : Int) := Int.natCast_nonneg sl
      have n5 : (sl : Int) < (l.length : Int) := Int.ofNat_lt.2 SLT
      have HG9 := Lib.hid (And.intro GB LNL)
      have HD := Lib.hid (And.intro d5 (And.intro d6 (And.intro d7 (And.intro d11 (And.intro d12 KLN)))))
      have HD10 := Lib.hid d10
      have HV9 := Lib.hid (And.intro (wrap_pred (lev_short hL LNL)) (wrap_pred (Nat.le_trans d12 (Nat.le_trans d6 (Nat.le_trans d7 KLN)))))
      have v8 := HV9.out.2
      obtain ⟨n, hn⟩ : ∃ n, ll.length - (L + 1) = n := ⟨_, rfl⟩
      have HN := Lib.hid hn
      have NL : Hid (n ≤ 4294967296) := Lib.hid (by rw [← hn]; exact Nat.le_trans (Nat.sub_le _ _) LNL)
      clear hn
      clear hsl hKL hb hT hll hs hG hm hx ST OKS GB LNL d5 d6 d7 d8 d9 d10 d11 d12 d13 hsg hs1 hsc xl v1 n1 e0 hL SLT KLN hb1 hsb
      go_upto_region 7 with fail
      have BG0 := Lib.hid (Blk.new wr 33 #[.int .u64 a0, .float .f64 a1, .float .f64 a2, .int .i64 (pp : Int), .int .i64 (t : Int)])
      have BW0 := Lib.hid (below_new (Below.refl wr.heap.size wr) (.cells #[.int .u64 a0, .float .f64 a1, .float .f64 a2, .int .i64 (pp : Int), .int .i64 (t : Int)] 33))
      have KO1 := KO _ (HK.out.below (below_next I.out.bel BW0.out)) (HS.out.below (below_next I.out.bel BW0.out))
      have HWG := Lib.hid BW0.out.size
      generalize (wr.alloc (.cells #[.int .u64 a0, .float .f64 a1, .float .f64 a2, .int .i64 (pp : Int), .int .i64 (t : Int)] 33)) = wg at *
      clear KO xa x0 x1 x2 x3 x4
      go_upto_region 8 with fail
      refine KO1.mono ?_
      rintro e w2 ⟨A', c', rfl, hA', b2, hAn⟩
      have HAN := Lib.hid hAn
      clear hAn
      have HA' := Lib.hid hA'
      have BG2 := Lib.hid (BG0.out.below b2)
      have BW2 := Lib.hid (below_next BW0.out b2)
      have y0 := BG2.out.cell 0; have y1 := BG2.out.cell 1; have y2 := BG2.out.cell 2; have y3 := BG2.out.cell 3; have y4 := BG2.out.cell 4
      clear hA' b2 KO1 BG0 BW0
      go_upto_region 9 with (go_at_call 59; refine (CG _).mono ?_; rintro e w4 ⟨rfl, b4⟩)
      obtain ⟨wz, hwz⟩ : ∃ wz, wz = w4.alloc (.cells #[.int .i64 (L : Int), .int .i64 (sl : Int), .int .i64 G, .int .i64 0, .int .i64 0, .int .i64 0] 69) := ⟨_, rfl⟩
      have KB : Hid (Below w2.heap.size w2 wz) := Lib.hid (by rw [hwz]; exact below_new b4 _)
      have BG : Hid (Blk wz wr.heap.size 33 #[.int .u64 a0, .float .f64 a1, .float .f64 a2, .int .i64 (pp : Int), .int .i64 (t : Int)]) := Lib.hid (by rw [hwz]; exact (BG2.out.below b4).alloc _)
      have BV : Hid (Blk wz w4.heap.size 69 #[.int .i64 (L : Int), .int .i64 (sl : Int), .int .i64 G, .int .i64 0, .int .i64 0, .int .i64 0]) := Lib.hid (by rw [hwz]; exact Blk.new _ _ _)
      have H4 : Hid (w2.heap.size ≤ w4.heap.size) := Lib.hid b4.size
      rw [← hwz]
      clear hwz b4 y0 y1 y2 y3 y4 BG2
      have w43 : wr.heap.size ≠ w4.heap.size := fun e => by
        have h1 := BG.out
        rw [e] at h1
        exact absurd (Blk.uniq h1 BV.out).1 (by decide)
      have x3 := BG.out.cell 3; have x4 := BG.out.cell 4
      have y2 := BV.out.cell 2; have y3 := BV.out.cell 3; have y4 := BV.out.cell 4; have y5 := BV.out.cell 5
      have z3 := BV.out.free 3; have z4 := BV.out.free 4; have z5 := BV.out.free 5
      obtain ⟨u1, u2, u3, u4⟩ := win_wrap HG9.out.1 HEE.out.1 HEE.out.2
      have W0 : Hid (VW w2 wr.heap.size w4.heap.size a0 a1 a2 (pp : Int) (t : Int) (L : Int) (sl : Int) G (lo : Int) (hi : Int) lo (((wz.setCell ⟨w4.heap.size, 3, none⟩ (.int .i64 (lo : Int))).setCell ⟨w4.heap.size, 4, none⟩ (.int .i64 (hi : Int))).setCell ⟨w4.heap.size, 5, none⟩ (.int .i64 (lo : Int)))) := Lib.hid
        ⟨((BG.out.far _ w43).far _ w43).far _ w43, ((BV.out.set 3 _).set 4 _).set 5 _, H4.out, ((KB.out.setCell H4.out _).setCell H4.out _).setCell H4.out _⟩
      go_upto_region 12 with fail
      rw [show (((wz.setCell ⟨w4.heap.size, 3, none⟩ (.int .i64 (lo : Int))).setCell ⟨w4.heap.size, 4, none⟩ (.int .i64 (hi : Int))).setCell ⟨w4.heap.size, 5, none⟩ (.int .i64 (lo : Int))) = (((wz.setCell ⟨w4.heap.size, 3, none⟩ (.int .i64 (lo : Int))).setCell ⟨w4.heap.size, 4, none⟩ (.int .i64 (hi : Int))).setCell ⟨w4.heap.size, 5, none⟩ (.int .i64 (lo : Int))) from rfl]
      generalize (((wz.setCell ⟨w4.heap.size, 3, none⟩ (.int .i64 (lo : Int))).setCell ⟨w4.heap.size, 4, none⟩ (.int .i64 (hi : Int))).setCell ⟨w4.heap.size, 5, none⟩ (.int .i64 (lo : Int))) = wf at *
      clear x3 x4 y2 y3 y4 y5 z3 z4 z5 u1 u2 u3 u4 KB BG BV
      obtain ⟨wq, hwq⟩ : ∃ wq : World, wq = wr := ⟨_, rfl⟩
      subst hwq
      go_loopw [60] (fun v wx => ∃ r : Nat, lo ≤ r ∧ r ≤ b ∧ Hid (VW w2 wq.heap.size w4.heap.size a0 a1 a2 (pp : Int) (t : Int) (L : Int) (sl : Int) G (lo : Int) (hi : Int) r wx)) (fun _ wx => hi - (intOf ((wx.cell? ⟨w4.heap.size, 5, none⟩).getD undef)).toNat)
      case atStart => exact ⟨lo, Nat.le_refl _, HD.out.2.2.2.1, W0⟩
      case round =>
        obtain ⟨r, hr1, hr2, J⟩ := hrel
        clear W0
        have x3 := J.out.seg.cell 3; have x4 := J.out.seg.cell 4
        have y4 := J.out.vis.cell 4; have y5 := J.out.vis.cell 5
        have z5 := J.out.vis.free 5
        have KLP : 0 < KL.length := KP.out
        obtain ⟨b6, o6, rfl, hb6, hc6⟩ := HA'.out KLP
        have HC6 : Hid (∀ wx, Below w2.heap.size w2 wx → ∀ i (h : i < KL.length), wx.cell? ⟨b6, o6 + i, none⟩ = some (.int .u64 (KL.getD i 0))) := Lib.hid fun wx k i h => by
          have e : KL[i]'h = KL.getD i 0 := by rw [List.getD_eq_getElem?_getD, List.getElem?_eq_getElem h]; rfl
          rw [← e]; exact (k.cell (p := ⟨b6, o6 + i, none⟩) hb6).trans (hc6 i h)
        clear hc6
        obtain ⟨k, hk⟩ : ∃ k, KL.getD r 0 = k := ⟨_, rfl⟩
        have HKK := Lib.hid hk
        have i3 : (0 : Int) ≤ (r : Int) := Int.natCast_nonneg r
        by_cases hrb : r < b
        · have hrh : r < hi := Nat.lt_of_lt_of_le hrb HD.out.2.2.2.2.1
          have hrk : r < KL.length := Nat.lt_of_lt_of_le hrh (Nat.le_trans HD.out.2.1 HD.out.2.2.1)
          have i1 : (r : Int) < (hi : Int) := Int.ofNat_lt.2 hrh
          have i4 : (r : Int) < (KL.length : Int) := Int.ofNat_lt.2 hrk
          have t0 := HC6.out _ J.out.bel r hrk
          rw [hk] at t0
          have i2 : k < q := by have := SPL.out.1 r hrb; rw [hk] at this; exact this
          have i5 := wrap_suc hrk HD.out.2.2.2.2.2
          clear hk
          go_wp2_with fail
          go_roundw
          case rel => exact ⟨r + 1, Nat.le_succ_of_le hr1, hrb, by first | exact Lib.hid J.out.step | (rw [i5]; exact Lib.hid J.out.step)⟩
          case measure => first | exact meas_rank (J.out.vis.cell 5) (J.out.step.vis.cell 5) hrh | (rw [i5]; exact meas_rank (J.out.vis.cell 5) (J.out.step.vis.cell 5) hrh)
        · obtain rfl : r = b := Nat.le_antisymm hr2 (Nat.le_of_not_lt hrb)
          have NE1 : Hid (u9.ownBlock ≠ some wq.heap.size) := Lib.hid fun e => absurd (own_lt I.out.own e) (Nat.lt_irrefl _)
          have NE2 : Hid (u9.ownBlock ≠ some w4.heap.size) := Lib.hid fun e => absurd (own_lt I.out.own e) (Nat.not_lt.2 (Nat.le_trans BW2.out.size H4.out))
          have NE3 : Hid (u9.ownBlock ≠ some b6) := Lib.hid fun e => by
            rcases HAN.out with ⟨h0, hA⟩ | hA
            · have hk0 : KL = K := by have := HK0.out h0; exact this
              rw [hk0] at KLP
              obtain ⟨b7, o7, e7, hb7, _⟩ := HK.out KLP
              rw [← hA] at e7
              injection e7 with e7
              injection e7 with e7
              have := (I.out.own.lt _ e).1
              omega
            · have h1 := hA b6 o6 rfl
              have h2 := own_lt I.out.own e
              have h3 := HWG.out
              omega
          have KC : Hid (∀ wx, Below w2.heap.size w2 wx → ∀ wn o, (wx.alloc o).grownBy wn u9.ownBlock → r < KL.length → wn.cell? ⟨b6, o6 + r, none⟩ = some (.int .u64 k)) := Lib.hid fun wx hb wn o hg hr => by
            have C : Chg (fun k => u9.ownBlock = some k) wx wn := ((Chg.refl _ wx).alloc o).grown hg (fun k hk _ => hk)
            rw [← HKK.out, ← HC6.out wx hb r hr]
            exact World.cell?_of_block (w := wx) (C.block b6 (Nat.lt_of_lt_of_le hb6 hb.size) NE3.out)
          have OW : Hid (∀ wx, Below w2.heap.size w2 wx → ∀ o, (wx.alloc o).ownsRow 0 69 6 u9 n (vflat (visL eps K ll q (L + 1)))) := Lib.hid fun wx hb o => by
            have h1 := own_mono I.out.own (base' := 0) (fun _ _ => Nat.zero_le _)
            rw [HN.out] at h1
            exact own_chg h1 ((Chg.of_below (below_next BW2.out hb)).alloc o) (fun _ _ h => h)
          have SO := Lib.hid (six_one (L : Int) (sl : Int) G (lo : Int) (hi : Int) (r : Int))
          have NB := len_vis NL.out
          have y0 := J.out.vis.cell 0; have y1 := J.out.vis.cell 1; have y2 := J.out.vis.cell 2; have y3 := J.out.vis.cell 3
          by_cases hbh : r < hi
          · have i1 : (r : Int) < (hi : Int) := Int.ofNat_lt.2 hbh
            have hrk : r < KL.length := Nat.lt_of_lt_of_le hbh (Nat.le_trans HD.out.2.1 HD.out.2.2.1)
            have i4 : (r : Int) < (KL.length : Int) := Int.ofNat_lt.2 hrk
            have t0 := HC6.out _ J.out.bel r hrk
            rw [hk] at t0
            have i2 : ¬ k < q := by have := SPL.out.2 r (Nat.le_refl _) hrk; rw [hk] at this; exact Int.not_lt.2 this
            clear hk
            go_upto_region 14 with fail
            clear t0 i1 i2 i4
            have HO : Hid ((wr.alloc (.cells #[.int .i64 (L : Int), .int .i64 (sl : Int), .int .i64 G, .int .i64 (lo : Int), .int .i64 (hi : Int), .int .i64 (r : Int)] 69)).ownsRow 0 69 6 u9 n (vflat (visL eps K ll q (L + 1)))) := Lib.hid (OW.out _ J.out.bel _)
            go_upto_region 15 with (at_builtin; go_loud (refine wpList_append_lies _ rfl (.tmp 78) (.tmp 80) 54 (by rfl) 0 69 iv _ 6 48 Try.underlying54 hiv hv0 hv1 hv2 rfl (by omega) u9 n (vflat (visL eps K ll q (L + 1))) (by rfl) HO.out ⟨wr.heap.size, 0, none⟩ 1 1 [.int .i64 (L : Int), .int .i64 (sl : Int), .int .i64 G, .int .i64 (lo : Int), .int .i64 (hi : Int), .int .i64 (r : Int)] (by rfl) (by rfl) (World.news_of_block (Blk.new wr 69 #[.int .i64 (L : Int), .int .i64 (sl : Int), .int .i64 G, .int .i64 (lo : Int), .int .i64 (hi : Int), .int .i64 (r : Int)])) SO.out (by omega) NB.1 NB.2 (Nat.zero_le _) (wr.heap.size + 1) (by simp) ?_; intro gn capn wn hown hgr hat hltn; obtain ⟨x3, x4, y5⟩ := J.out.grown hgr NE1.out NE2.out; have P := Lib.hid (I.out.next HLL.out (below_next BW2.out J.out.bel) VIS.out HN.out hown hgr hat); have t0 := KC.out _ J.out.bel _ _ hgr; clear hown hgr hat hltn))
            clear HO
            cases T
            · have mx : max ((r : Int) - 1) (pp : Int) = ((r - 1 : Nat) : Int) := HD10.out (by decide)
              by_cases hbt : r < t
              · have i1 : (r : Int) < (t : Int) := Int.ofNat_lt.2 hbt
                have i2 : (k == q) = false := by
                  have h9 := HT9.out
                  rw [HKK.out] at h9
                  have := of_decide_eq_false h9
                  rw [beq_eq_false_iff_ne]; exact fun e => this ⟨hbt, e⟩
                have i3 : (0 : Int) ≤ (r : Int) := Int.natCast_nonneg r
                have i4 : (r : Int) < (KL.length : Int) := Int.ofNat_lt.2 (Nat.lt_of_lt_of_le hbt HD.out.2.2.1)
                have t1 := t0 (Nat.lt_of_lt_of_le hbt HD.out.2.2.1)
                clear t0
                go_wp2_with fail
                go_roundw
                case rel => exact ⟨L, Nat.le_of_lt HLL.out, (by first | rfl | rw [HV9.out.1]), fun h => by have := HSL.out false h rfl; first | (rw [← this]; rfl) | (rw [← this]; simp), P⟩
                case measure => first | (rw [HV9.out.1]; exact meas_down L) | exact meas_down L
              · exact absurd (Nat.lt_of_lt_of_le hbh HD.out.2.1) hbt
            · have hbt := (of_decide_eq_true HT9.out).1
              have i1 : (r : Int) < (t : Int) := Int.ofNat_lt.2 hbt
              have i2 : (k == q) = true := by have h9 := (of_decide_eq_true HT9.out).2; rw [HKK.out] at h9; rw [beq_iff_eq]; exact h9
              have i3 : (0 : Int) ≤ (r : Int) := Int.natCast_nonneg r
              have i4 : (r : Int) < (KL.length : Int) := Int.ofNat_lt.2 (Nat.lt_of_lt_of_le hbt HD.out.2.2.1)
              have t1 := t0 (Nat.lt_of_lt_of_le hbt HD.out.2.2.1)
              clear t0
              go_wp2_with fail
              go_roundw
              case rel => exact ⟨L, Nat.le_of_lt HLL.out, (by first | rfl | rw [HV9.out.1]), fun h => by have := HSL.out true h rfl; rw [← this]; rfl, P⟩
              case measure => first | (rw [HV9.out.1]; exact meas_down L) | exact meas_down L
          · have i1 : ¬ (r : Int) < (hi : Int) := fun h => hbh (Int.ofNat_lt.1 h)
            clear hk
            go_upto_region 14 with fail
            clear i1
            have HO : Hid ((wr.alloc (.cells #[.int .i64 (L : Int), .int .i64 (sl : Int), .int .i64 G, .int .i64 (lo : Int), .int .i64 (hi : Int), .int .i64 (r : Int)] 69)).ownsRow 0 69 6 u9 n (vflat (visL eps K ll q (L + 1)))) := Lib.hid (OW.out _ J.out.bel _)
            go_upto_region 15 with (at_builtin; go_loud (refine wpList_append_lies _ rfl (.tmp 78) (.tmp 80) 54 (by rfl) 0 69 iv _ 6 48 Try.underlying54 hiv hv0 hv1 hv2 rfl (by omega) u9 n (vflat (visL eps K ll q (L + 1))) (by rfl) HO.out ⟨wr.heap.size, 0, none⟩ 1 1 [.int .i64 (L : Int), .int .i64 (sl : Int), .int .i64 G, .int .i64 (lo : Int), .int .i64 (hi : Int), .int .i64 (r : Int)] (by rfl) (by rfl) (World.news_of_block (Blk.new wr 69 #[.int .i64 (L : Int), .int .i64 (sl : Int), .int .i64 G, .int .i64 (lo : Int), .int .i64 (hi : Int), .int .i64 (r : Int)])) SO.out (by omega) NB.1 NB.2 (Nat.zero_le _) (wr.heap.size + 1) (by simp) ?_; intro gn capn wn hown hgr hat hltn; obtain ⟨x3, x4, y5⟩ := J.out.grown hgr NE1.out NE2.out; have P := Lib.hid (I.out.next HLL.out (below_next BW2.out J.out.bel) VIS.out HN.out hown hgr hat); have t0 := KC.out _ J.out.bel _ _ hgr; clear hown hgr hat hltn))
            clear HO
            cases T
            · have mx : max ((r : Int) - 1) (pp : Int) = ((r - 1 : Nat) : Int) := HD10.out (by decide)
              by_cases hbt : r < t
              · have i1 : (r : Int) < (t : Int) := Int.ofNat_lt.2 hbt
                have i2 : (k == q) = false := by
                  have h9 := HT9.out
                  rw [HKK.out] at h9
                  have := of_decide_eq_false h9
                  rw [beq_eq_false_iff_ne]; exact fun e => this ⟨hbt, e⟩
                have i3 : (0 : Int) ≤ (r : Int) := Int.natCast_nonneg r
                have i4 : (r : Int) < (KL.length : Int) := Int.ofNat_lt.2 (Nat.lt_of_lt_of_le hbt HD.out.2.2.1)
                have t1 := t0 (Nat.lt_of_lt_of_le hbt HD.out.2.2.1)
                clear t0
                go_wp2_with fail
                go_roundw
                case rel => exact ⟨L, Nat.le_of_lt HLL.out, (by first | rfl | rw [HV9.out.1]), fun h => by have := HSL.out false h rfl; first | (rw [← this]; rfl) | (rw [← this]; simp), P⟩
                case measure => first | (rw [HV9.out.1]; exact meas_down L) | exact meas_down L
              · have i1 : ¬ (r : Int) < (t : Int) := fun h => hbt (Int.ofNat_lt.1 h)
                clear t0
                go_wp2_with fail
                go_roundw
                case rel => exact ⟨L, Nat.le_of_lt HLL.out, (by first | rfl | rw [HV9.out.1]), fun h => by have := HSL.out false h rfl; first | (rw [← this]; rfl) | (rw [← this]; simp), P⟩
                case measure => first | (rw [HV9.out.1]; exact meas_down L) | exact meas_down L
            · have hbt := (of_decide_eq_true HT9.out).1
              have i1 : (r : Int) < (t : Int) := Int.ofNat_lt.2 hbt
              have i2 : (k == q) = true := by have h9 := (of_decide_eq_true HT9.out).2; rw [HKK.out] at h9; rw [beq_iff_eq]; exact h9
              have i3 : (0 : Int) ≤ (r : Int) := Int.natCast_nonneg r
              have i4 : (r : Int) < (KL.length : Int) := Int.ofNat_lt.2 (Nat.lt_of_lt_of_le hbt HD.out.2.2.1)
              have t1 := t0 (Nat.lt_of_lt_of_le hbt HD.out.2.2.1)
              clear t0
              go_wp2_with fail
              go_roundw
              case rel => exact ⟨L, Nat.le_of_lt HLL.out, (by first | rfl | rw [HV9.out.1]), fun h => by have := HSL.out true h rfl; rw [← this]; rfl, P⟩
              case measure => first | (rw [HV9.out.1]; exact meas_down L) | exact meas_down L
end
end Go.Proofs.Ytnccgpdniigekaa
/-
  Visits and pairs in memory: how they read, and '=='; the reference's Find; sameVisits.
-/
namespace Go.Proofs.Ytnccgpdniigekaa
open Go.RowKit
set_option linter.unusedVariables false
set_option linter.unusedSimpArgs false

theorem eqVis (d : Nat) (w : World) (x0 x1 x2 x3 x4 x5 y0 y1 y2 y3 y4 y5 : Int) :
    (Op.equalIn (d + 2) 69 (.agg #[.int .i64 x0, .int .i64 x1, .int .i64 x2, .int .i64 x3, .int .i64 x4, .int .i64 x5]) (.agg #[.int .i64 y0, .int .i64 y1, .int .i64 y2, .int .i64 y3, .int .i64 y4, .int .i64 y5])).run Try.prog w =
      .ok (x0 == y0 && (x1 == y1 && (x2 == y2 && (x3 == y3 && (x4 == y4 && (x5 == y5 && true)))))) w := by
  refine equal_struct Try.underlying69 (by kernel_rfl) ?_
  refine eqFields_step (by decide) (by go_simp; rfl) (by go_simp; rfl) (by go_simp) ?_
  refine eqFields_step (by decide) (by go_simp; rfl) (by go_simp; rfl) (by go_simp) ?_
  refine eqFields_step (by decide) (by go_simp; rfl) (by go_simp; rfl) (by go_simp) ?_
  refine eqFields_step (by decide) (by go_simp; rfl) (by go_simp; rfl) (by go_simp) ?_
  refine eqFields_step (by decide) (by go_simp; rfl) (by go_simp; rfl) (by go_simp) ?_
  exact eqFields_step (by decide) (by go_simp; rfl) (by go_simp; rfl) (by go_simp) eqFields_nil
theorem eqVis_same (d : Nat) (w : World) (x0 x1 x2 x3 x4 x5 : Int) :
    (Op.equalIn (d + 2) 69 (.agg #[.int .i64 x0, .int .i64 x1, .int .i64 x2, .int .i64 x3, .int .i64 x4, .int .i64 x5]) (.agg #[.int .i64 x0, .int .i64 x1, .int .i64 x2, .int .i64 x3, .int .i64 x4, .int .i64 x5])).run Try.prog w = .ok true w := by
  rw [eqVis]; simp
theorem eqPr (d : Nat) (w : World) (x0 x1 y0 y1 : Int) :
    (Op.equalIn (d + 2) 94 (.agg #[.int .i64 x0, .int .i64 x1]) (.agg #[.int .i64 y0, .int .i64 y1])).run Try.prog w = .ok (x0 == y0 && x1 == y1) w := by
  rw [Op.equalIn]
  simp only [Sem.run_bind, run_underlying Try.underlying94, Result.andThen_ok]
  have hs : (sizeOf 3).run Try.prog w = .ok 1 w := by kernel_rfl
  have p0 : (part 3 #[Value.int .i64 x0, .int .i64 x1] 0).run Try.prog w = .ok (.int .i64 x0) w := by go_simp
  have p1 : (part 3 #[Value.int .i64 x0, .int .i64 x1] 1).run Try.prog w = .ok (.int .i64 x1) w := by go_simp
  have q0 : (part 3 #[Value.int .i64 y0, .int .i64 y1] 0).run Try.prog w = .ok (.int .i64 y0) w := by go_simp
  have q1 : (part 3 #[Value.int .i64 y0, .int .i64 y1] 1).run Try.prog w = .ok (.int .i64 y1) w := by go_simp
  have r0 := run_equalIn_int (P := Try.prog) w d 3 .i64 .i64 x0 y0 Try.underlying3
  have r1 := run_equalIn_int (P := Try.prog) w d 3 .i64 .i64 x1 y1 Try.underlying3
  rw [hs]
  simp only [Result.andThen_ok, Std.Legacy.Range.forIn_eq_forIn_range']
  rw [show List.range' (0 : Nat) (Std.Legacy.Range.size [:2]) 1 = [0, 1] from rfl]
  simp only [List.forIn_cons, List.forIn_nil, Nat.zero_mul, Nat.one_mul, Sem.run_bind, p0, q0, r0, Result.andThen_ok]
  cases x0 == y0
  · simp
  · simp [p1, q1, r1]
    cases h : (x1 == y1) <;> simp_all
/-- Visits that a slice reads as. -/
def ArgV (w : World) (A : Option Addr) (eps : Int) (K : List Int) (ll : List (List Sg)) (q : Int) : Prop := 0 < ll.length → ∃ g o, A = some ⟨g, o, none⟩ ∧ g < w.heap.size ∧ ∀ i, i < ll.length → ∀ j, j < 6 → w.cell? ⟨g, o + i * 6 + j, none⟩ = (visS eps K ll q (ll.length - 1 - i))[j]?
section
variable {w w' : World} {eps : Int} {K : List Int} {ll : List (List Sg)} {q : Int} {A : Option Addr}
theorem ArgV.below (h : ArgV w A eps K ll q) (k : Below w.heap.size w w') : ArgV w' A eps K ll q := fun hn => by
  obtain ⟨g, o, hA, hb, hc⟩ := h hn
  exact ⟨g, o, hA, Nat.lt_of_lt_of_le hb k.size, fun i hi j hj => (k.cell (p := ⟨g, o + i * 6 + j, none⟩) hb).trans (hc i hi j hj)⟩
theorem ArgV.keep (h : ArgV w A eps K ll q) (hA : ∀ g o, A = some ⟨g, o, none⟩ → w'.heap[g]? = w.heap[g]? ∧ g < w'.heap.size) : ArgV w' A eps K ll q := fun hn => by
  obtain ⟨g, o, e, hb, hc⟩ := h hn
  obtain ⟨h1, h2⟩ := hA g o e
  exact ⟨g, o, e, h2, fun i hi j hj => (World.cell?_of_block (w := w) h1).trans (hc i hi j hj)⟩
theorem ArgV.at_ (h : ArgV w A eps K ll q) {i : Nat} (hi : i < ll.length) : ∃ g o, A = some ⟨g, o, none⟩ ∧ w.cell? ⟨g, o + i * 6, none⟩ = some (.int .i64 ((ll.length - 1 - i : Nat) : Int)) ∧ w.cell? ⟨g, o + i * 6 + 1, none⟩ = some (.int .i64 (slotAt K ll q (ll.length - 1 - i) : Nat)) ∧
    w.cell? ⟨g, o + i * 6 + 2, none⟩ = some (.int .i64 (guess (sgAt K ll q (ll.length - 1 - i)) q)) ∧ w.cell? ⟨g, o + i * 6 + 3, none⟩ = some (.int .i64 (loI eps K ll q (ll.length - 1 - i))) ∧ w.cell? ⟨g, o + i * 6 + 4, none⟩ = some (.int .i64 (hiI eps K ll q (ll.length - 1 - i))) ∧
    w.cell? ⟨g, o + i * 6 + 5, none⟩ = some (.int .i64 (rankI K ll q (ll.length - 1 - i) : Nat)) := by
  obtain ⟨g, o, e, _, hc⟩ := h (Nat.lt_of_le_of_lt (Nat.zero_le _) hi)
  exact ⟨g, o, e, hc i hi 0 (by omega), hc i hi 1 (by omega), hc i hi 2 (by omega), hc i hi 3 (by omega), hc i hi 4 (by omega), hc i hi 5 (by omega)⟩
theorem vflat_get : ∀ (l : List (Array Value)) (i j : Nat) (_ : ∀ a ∈ l, a.size = 6) (_ : i < l.length) (_ : j < 6), (vflat l)[i * 6 + j]? = (l.getD i #[])[j]?
  | a :: l, 0, j, h, _, hj => by
    have e : vflat (a :: l) = a.toList ++ vflat l := by simp [vflat]
    have ha := h a (by simp)
    rw [e, List.getElem?_append_left (by rw [Array.length_toList]; omega)]
    simp
  | a :: l, i + 1, j, h, hi, hj => by
    have e : vflat (a :: l) = a.toList ++ vflat l := by simp [vflat]
    have ha := h a (by simp)
    rw [e, List.getElem?_append_right (by rw [Array.length_toList]; omega), Array.length_toList, ha, show (i + 1) * 6 + j - 6 = i * 6 + j by omega, vflat_get l i j (fun b hb => h b (by simp [hb])) (by simpa using hi) hj]
    simp
theorem visL_get (eps : Int) (K : List Int) (ll : List (List Sg)) (q : Int) {i : Nat} (hi : i < ll.length) : (visL eps K ll q 0).getD i #[] = visS eps K ll q (ll.length - 1 - i) := by
  unfold visL
  rw [List.getD_eq_getElem?_getD, List.getElem?_map, List.getElem?_range (by omega)]
  rfl
theorem own_argv {base : Nat} {v : Value} (h : w.ownsRow base 69 6 v ll.length (vflat (visL eps K ll q 0))) : ∃ A c, v = .slice A ll.length c ∧ ArgV w A eps K ll q ∧ ∀ g o, A = some ⟨g, o, none⟩ → base ≤ g ∧ ∃ cs, Blk w g 69 cs := by
  rcases h.2 with ⟨hv, h0⟩ | ⟨g, cap, cur, hv, hr⟩
  · exact ⟨none, 0, by rw [hv, h0], fun hn => by omega, fun g o e => by cases e⟩
  · have hlt : g < w.heap.size := Blk.lt (t := 69) hr.2.1
    refine ⟨_, _, hv, fun _ => ⟨g, 0, rfl, hlt, fun i hi j hj => ?_⟩, fun g' o e => ?_⟩
    · have h6 : ∀ a ∈ visL eps K ll q 0, a.size = 6 := fun a ha => by
        obtain ⟨k, _, rfl⟩ := List.mem_map.1 ha
        rfl
      have hg := vflat_get (visL eps K ll q 0) i j h6 (by rw [visL_len]; exact hi) hj
      rw [visL_get eps K ll q hi] at hg
      have hs : j < (visS eps K ll q (ll.length - 1 - i)).size := hj
      rw [Array.getElem?_eq_getElem hs] at hg ⊢
      have := World.ownsRow.cells h (g := g) (by rw [hv]; rfl) (i * 6 + j) _ hg
      rw [Addr.add_mid, ← Nat.add_assoc] at this
      exact this
    · injection e with e; injection e with e1 e2
      subst e1
      exact ⟨hr.1, cur, hr.2.1⟩
end
end Go.Proofs.Ytnccgpdniigekaa
/-
  The reference's Find; sameVisits of the law.
-/
namespace Go.Proofs.Ytnccgpdniigekaa
open Go.RowKit
set_option linter.unusedVariables false
set_option linter.unusedSimpArgs false
attribute [local go_sem high] run_store_float eqVis_same

theorem vis_num {i n : Nat} (h : i < n) (hn : n ≤ 4294967296) : (0 : Int) ≤ (i : Int) ∧ (i : Int) < (n : Int) ∧ wrap64 ((i : Int) + 1) = (i : Int) + 1 ∧ ((n : Int) == 0) = false ∧ wrap64 ((n : Int) - 1) = ((n - 1 : Nat) : Int) := by
  refine ⟨by omega, by omega, by unfold wrap64; omega, by rw [beq_eq_false_iff_ne]; omega, by unfold wrap64; omega⟩
set_option maxHeartbeats 4000000 in
set_option maxRecDepth 100000 in
theorem sameVisits_any {eps : Int} {K : List Int} {ll : List (List Sg)} {q : Int} (hn : ll.length ≤ 4294967296) (A B : Option Addr) (c d : Nat) (w : World) (hA : ArgV w A eps K ll q) (hB : ArgV w B eps K ll q) :
    Calls Try.prog 33 #[.slice A ll.length c, .slice B ll.length d] w fun e w' => e = .returned (.bool true) ∧ Below w.heap.size w w' := by
  have HA := Lib.hid hA
  have HB := Lib.hid hB
  have HN := Lib.hid hn
  have z0 : ((ll.length : Int) != (ll.length : Int)) = false := by simp
  clear hA hB hn
  go_enter Try.func33, Try.ntmps33
  go_wp2_with fail
  go_loopw [5] (fun x wr => ∃ i : Nat, i ≤ ll.length ∧ x = .int .i64 i ∧ Hid (Below w.heap.size w wr)) (fun x _ => ll.length - (intOf x).toNat)
  case atStart => exact ⟨0, Nat.zero_le _, rfl, Lib.hid (Below.refl _ _)⟩
  case round =>
    obtain ⟨i, hi', rfl, I⟩ := hrel
    by_cases hlt : i < ll.length
    · obtain ⟨n1, n2, n3, _, _⟩ := vis_num hlt HN.out
      obtain ⟨g, o, rfl, a0, a1, a2, a3, a4, a5⟩ := (HA.out.below I.out).at_ hlt
      obtain ⟨g', o', rfl, b0, b1, b2, b3, b4, b5⟩ := (HB.out.below I.out).at_ hlt
      generalize ((ll.length - 1 - i : Nat) : Int) = v0 at *
      generalize slotAt K ll q (ll.length - 1 - i) = v1 at *
      generalize guess (sgAt K ll q (ll.length - 1 - i)) q = v2 at *
      generalize loI eps K ll q (ll.length - 1 - i) = v3 at *
      generalize hiI eps K ll q (ll.length - 1 - i) = v4 at *
      generalize rankI K ll q (ll.length - 1 - i) = v5 at *
      go_wp2_with fail
      go_quiet (fail)
      go_wp2_with fail
      go_roundw
      case rel => exact ⟨i + 1, Nat.succ_le_of_lt hlt, (by first | rfl | (rw [n3]; rfl)), Lib.hid (drewN_below I.out nq)⟩
      case measure => first | (rw [n3]; exact meas_next hlt) | exact meas_next hlt
    · obtain rfl : i = ll.length := Nat.le_antisymm hi' (Nat.le_of_not_lt hlt)
      have i1 : ¬ (ll.length : Int) < (ll.length : Int) := Int.lt_irrefl _
      go_wp2_with fail
      go_ret
      exact ⟨rfl, I.out⟩
end Go.Proofs.Ytnccgpdniigekaa
