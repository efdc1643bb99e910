/-
  The law HullPlays.
-/
import Derived.Test.YtanhhgifcolfaaaHuPlC
namespace Go.Proofs.Ytanhhgifcolfaaa
open Go.RowKit
set_option linter.unusedVariables false
set_option linter.unusedSimpArgs false

set_option maxHeartbeats 8000000 in
set_option maxRecDepth 100000 in
theorem plays_walk (eps : Int) (A : Option Addr) (c n : Nat) (T : Nat → Int × Int × Int × Int) (hn : n ≤ 17592186044416) (w : World) (hS : ArgS w A n T) :
    Calls Try.prog 8 #[.int .i64 eps, .slice A n c] w fun e w' => e = .returned (.bool true) ∧ Below w.heap.size w w' := by
  have SH := shown_any w
  have HS := Lib.hid hS
  have HN := Lib.hid hn
  have N1 := fun w => made_any eps w
  have N2 := fun w => made_good 2 (by omega) (by omega) w
  clear hS hn
  go_enter Try.func8, Try.ntmps8
  go_wp2_with fail
  refine SH.mono ?_
  rintro e w1 ⟨rfl, b1⟩
  have F0 : Hid (Fam w [] (fun _ _ => False) (.slice (some ⟨w1.heap.size, 0, none⟩) 0 0) (w1.alloc (.cells #[] 27))) := Lib.hid
    ⟨fun i x h => by simp at h, fun i j h => by simp at h, fun i h => by simp at h, ⟨rfl, .inr ⟨w1.heap.size, 0, #[], rfl, Nat.zero_le _, Blk.new _ _ _, Nat.le_refl _, Nat.zero_le _, rfl, rfl⟩⟩, fun g hg => by simp [Value.ownBlock] at hg; have := b1.size; omega, fun g hg i hi => by simp at hi, below_new b1 _⟩
  clear SH b1
  go_wp2_with fail
  refine (N1 _).mono ?_
  rintro e w2 ⟨is, p, q, rfl, b2, hP⟩
  have HP := Lib.hid hP
  have HB2 := Lib.hid b2
  clear N1 b2 hP
  go_wp2_with fail
  refine (N2 _).mono ?_
  rintro e w3 ⟨y1, y2, rfl, P3⟩
  have HP3 := Lib.hid P3
  clear N2 P3
  obtain ⟨i0, hi, hz0, hz1, hz2⟩ := info_parts infoT
  have BX : Hid (Blk (w3.alloc (.cells #[.pointer (some ⟨y1, 0, none⟩), .pointer (some ⟨y2, 0, none⟩)] 27)) w2.heap.size 27 #[.pointer p, .pointer q]) := Lib.hid (((Blk.new w2 27 #[.pointer p, .pointer q]).below HP3.out.bel).alloc _)
  have BY : Hid (Blk (w3.alloc (.cells #[.pointer (some ⟨y1, 0, none⟩), .pointer (some ⟨y2, 0, none⟩)] 27)) w3.heap.size 27 #[.pointer (some ⟨y1, 0, none⟩), .pointer (some ⟨y2, 0, none⟩)]) := Lib.hid (Blk.new _ _ _)
  have KY : Hid (Below (w1.alloc (.cells #[] 27)).heap.size (w1.alloc (.cells #[] 27)) (w3.alloc (.cells #[.pointer (some ⟨y1, 0, none⟩), .pointer (some ⟨y2, 0, none⟩)] 27))) := Lib.hid (below_new (below_next (below_new HB2.out _) HP3.out.bel) _)
  have FY := Lib.hid (F0.out.below KY.out)
  have hsz : Hid (w.heap.size ≤ (w1.alloc (.cells #[] 27)).heap.size ∧ (w1.alloc (.cells #[] 27)).heap.size ≤ (w2.alloc (.cells #[.pointer p, .pointer q] 27)).heap.size) := Lib.hid ⟨F0.out.bel.size, by have := HB2.out.size; simp at this ⊢; omega⟩
  obtain ⟨SY, PY, nY, bY⟩ := HP3.out.pairS
  have HPY : Hid (PairS (w3.alloc (.cells #[.pointer (some ⟨y1, 0, none⟩), .pointer (some ⟨y2, 0, none⟩)] 27)) ⟨y1, y2, 2 - 1, Fit.zero⟩ SY ∧ (∀ k, SY k → (w2.alloc (.cells #[.pointer p, .pointer q] 27)).heap.size ≤ k)) := Lib.hid ⟨PY.below (below_new (Below.refl _ _) _), nY⟩
  clear PY nY bY
  go_upto_if 48 with fail
  go_cut [6] (fun x6 wx => ∃ (l : List Two) (S : Nat → Nat → Prop), l.length ≤ 1 ∧ Hid (Fam w l S x6 wx) ∧ Hid (PairS wx ⟨y1, y2, 2 - 1, Fit.zero⟩ SY ∧ (∀ k, SY k → w.heap.size ≤ k) ∧ (∀ i : Nat, i < l.length → ∀ k, SY k → ¬ S i k) ∧ ∀ g, x6.ownBlock = some g → ¬ SY g) ∧ Hid (Blk wx w3.heap.size 27 #[.pointer (some ⟨y1, 0, none⟩), .pointer (some ⟨y2, 0, none⟩)]))
  case first =>
    cases is with
    | false =>
      go_wp2_with fail
      go_meet
      case rel => exact ⟨[], _, by simp, FY, Lib.hid ⟨HPY.out.1, fun k hk => by have := HPY.out.2 k hk; have := hsz.out; omega, fun i hi => by simp at hi, fun g hg hk => by have h1 := own_lt F0.out.row hg; have h2 := HPY.out.2 g hk; have h3 := hsz.out.2; omega⟩, BY⟩
    | true =>
      obtain ⟨b1, b2, rfl, rfl, P⟩ := HP.out rfl
      obtain ⟨SX, PX, nX, bX⟩ := P.pairS
      have lX := PX.lt
      have HPX : Hid (PairS (w3.alloc (.cells #[.pointer (some ⟨y1, 0, none⟩), .pointer (some ⟨y2, 0, none⟩)] 27)) ⟨b1, b2, eps - 1, Fit.zero⟩ SX ∧ (∀ k, SX k → (w1.alloc (.cells #[] 27)).heap.size ≤ k) ∧ ∀ k, SX k → k < w2.heap.size) := Lib.hid ⟨PX.below (below_new (below_next (below_new (Below.refl _ _) _) HP3.out.bel) _), nX, lX⟩
      have HLE := Lib.hid (show (tcells ⟨b1, b2, eps - 1, Fit.zero⟩).length = 1 * 2 from rfl)
      have HFO : Hid (∀ u ∈ tcells ⟨b1, b2, eps - 1, Fit.zero⟩, u.oneCell' = true) := Lib.hid (by intro u hu; simp [tcells] at hu; rcases hu with rfl | rfl <;> rfl)
      obtain ⟨p0, p1, _, _⟩ := BX.out.cells2
      clear P PX nX bX lX
      generalize hwy : w3.alloc (.cells #[.pointer (some ⟨y1, 0, none⟩), .pointer (some ⟨y2, 0, none⟩)] 27) = wy at *
      have HO1 : Hid ((wy.alloc (.cells #[.pointer (some ⟨b1, 0, none⟩), .pointer (some ⟨b2, 0, none⟩)] 27)).ownsRow 0 27 2 (.slice (some ⟨w1.heap.size, 0, none⟩) 0 0) 0 []) := Lib.hid (own_chg FY.out.row ((Chg.refl (fun _ => False) wy).alloc _) (fun _ _ h => h))
      clear hwy
      go_wp2_with (at_builtin; go_loud (refine wpList_append_lies _ rfl (.tmp 49) (.tmp 51) 45 (by rfl) 0 27 i0 _ 2 16 Try.underlying45 hi hz0 hz1 hz2 rfl (by omega) (.slice (some ⟨w1.heap.size, 0, none⟩) 0 0) 0 [] (by rfl) HO1.out ⟨wy.heap.size, 0, none⟩ 1 1 (tcells ⟨b1, b2, eps - 1, Fit.zero⟩) (by rfl) HLE.out (World.news_of_block (Blk.new wy 27 #[.pointer (some ⟨b1, 0, none⟩), .pointer (some ⟨b2, 0, none⟩)])) HFO.out (by omega) (by unfold maxLen; omega) (by omega) (Nat.zero_le _) (wy.heap.size + 1) (by simp) ?_); intro g2 cap2 wn hown hgr hat hlt2; have HAP := Lib.hid (And.intro hown (And.intro hgr hat)); clear hown hgr hat hlt2)
      go_meet
      case rel =>
        have C : Chg (fun k => (Value.slice (some ⟨w1.heap.size, 0, none⟩) 0 0).ownBlock = some k) wy wn := ((Chg.refl _ wy).alloc _).grown HAP.out.2.1 (fun k hk _ => hk)
        have z1 : w1.heap.size + 1 ≤ w2.heap.size := by have := HB2.out.size; simpa using this
        have z2 : w2.heap.size + 1 ≤ w3.heap.size := by have := HP3.out.bel.size; simpa using this
        have z0 := hsz.out.1
        simp only [World.size_alloc] at z0
        have nX := HPX.out.2.1
        have nY := HPY.out.2
        have lX := HPX.out.2.2
        have lY := HPY.out.1.lt
        have z3 : ∀ k, SX k → w1.heap.size + 1 ≤ k := fun k hk => by have := nX k hk; simpa using this
        have z4 : ∀ k, SY k → w2.heap.size + 1 ≤ k := fun k hk => by have := nY k hk; simpa using this
        have ho : ∀ g, (Value.slice (some ⟨w1.heap.size, 0, none⟩) 0 0).ownBlock = some g → g = w1.heap.size := fun g hg => by simp only [Value.ownBlock, Option.some.injEq] at hg; omega
        have hat2 : g2 = w1.heap.size ∨ g2 = wy.heap.size + 1 := HAP.out.2.2.imp (fun h => ho _ h) id
        have hg2 : ∀ g, (Value.slice (some ⟨g2, 0, none⟩) 1 cap2).ownBlock = some g → g = g2 := fun g hg => by simp only [Value.ownBlock, Option.some.injEq] at hg; omega
        have hat3 : ∀ g, (Value.slice (some ⟨g2, 0, none⟩) 1 cap2).ownBlock = some g → (Value.slice (some ⟨w1.heap.size, 0, none⟩) 0 0).ownBlock = some g ∨ wy.heap.size ≤ g := by
          intro g hg
          have h1 := hg2 g hg
          rcases hat2 with m | m
          · exact .inl (by rw [h1, m]; rfl)
          · exact .inr (by omega)
        refine ⟨[⟨b1, b2, eps - 1, Fit.zero⟩], _, by simp, Lib.hid (FY.out.push HPX.out.1 (fun k hk => by have := z3 k hk; omega) (fun i hi => by simp at hi) (fun g hg hk => by have := ho g hg; have := z3 g hk; omega) (by simpa [tflat] using HAP.out.1) C hat3), Lib.hid ⟨HPY.out.1.chg C (fun k hk hs => by have := ho k hs; have := z4 k hk; omega), fun k hk => by have := z4 k hk; omega, fun i hi k hk => ?_, fun g hg hk => ?_⟩, Lib.hid (BY.out.chg C (fun hs => by have := ho _ hs; omega))⟩
        · simp only [List.length_singleton] at hi
          have hi0 : i = 0 := by omega
          subst hi0
          simp only [List.length_nil, if_true]
          intro h; have := lX k h; have := z4 k hk; omega
        · have h1 := hg2 g hg
          have h2 := z4 g hk
          have h3 := lY g hk
          rcases hat2 with m | m <;> omega
  case rest =>
    obtain ⟨l, S, hl, HF, HY, HB⟩ := hcut
    obtain ⟨p0, p1, _, _⟩ := HB.out.cells2
    have HLE := Lib.hid (show (tcells ⟨y1, y2, 2 - 1, Fit.zero⟩).length = 1 * 2 from rfl)
    have HFO : Hid (∀ u ∈ tcells ⟨y1, y2, 2 - 1, Fit.zero⟩, u.oneCell' = true) := Lib.hid (by intro u hu; simp [tcells] at hu; rcases hu with rfl | rfl <;> rfl)
    have HO1 : Hid ((wc.alloc (.cells #[.pointer (some ⟨y1, 0, none⟩), .pointer (some ⟨y2, 0, none⟩)] 27)).ownsRow 0 27 2 u6 l.length (tflat l)) := Lib.hid (own_chg HF.out.row ((Chg.refl (fun _ => False) wc).alloc _) (fun _ _ h => h))
    clear BX BY KY FY HPY hsz HP HP3 HB2
    go_upto_block 0 with (at_builtin; go_loud (refine wpList_append_lies _ rfl (.tmp 53) (.tmp 55) 45 (by rfl) 0 27 i0 _ 2 16 Try.underlying45 hi hz0 hz1 hz2 rfl (by omega) u6 l.length (tflat l) (by rfl) HO1.out ⟨wc.heap.size, 0, none⟩ 1 1 (tcells ⟨y1, y2, 2 - 1, Fit.zero⟩) (by rfl) HLE.out (World.news_of_block (Blk.new wc 27 #[.pointer (some ⟨y1, 0, none⟩), .pointer (some ⟨y2, 0, none⟩)])) HFO.out (by omega) (by unfold maxLen; omega) (by omega) (Nat.zero_le _) (wc.heap.size + 1) (by simp) ?_); intro g2 cap2 wn hown hgr hat hlt2; have HAP := Lib.hid (And.intro hown (And.intro hgr hat)); clear hown hgr hat hlt2)
    have FZ : Hid (Fam w (l ++ [⟨y1, y2, 2 - 1, Fit.zero⟩]) (fun j => if j = l.length then SY else S j) (.slice (some ⟨g2, 0, none⟩) (l.length + 1) cap2) wn) := Lib.hid (HF.out.push HY.out.1 HY.out.2.1 HY.out.2.2.1 HY.out.2.2.2 HAP.out.1 (((Chg.refl _ wc).alloc _).grown HAP.out.2.1 (fun k hk _ => hk)) (fun g hg => by
      simp only [Value.ownBlock, Option.some.injEq] at hg
      rcases HAP.out.2.2 with m | m
      · exact .inl (by rw [m, hg])
      · exact .inr (by omega)))
    clear HF HY HB HLE HFO HO1 HAP p0 p1
    have FE : Hid (PEnd w g2 cap2 (l.length + 1) wn) := Lib.hid ⟨_, _, by simp, by omega, by omega, FZ.out⟩
    clear FZ hl
    go_wp2_with fail
    go_loopw [6, 13] (fun x6 x13 wr => ∃ (i g6 c6 n6 : Nat), i ≤ n ∧ x13 = .int .i64 i ∧ x6 = .slice (some ⟨g6, 0, none⟩) n6 c6 ∧ Hid (PEnd w g6 c6 n6 wr)) (fun _ x13 _ => n - (intOf x13).toNat)
    case atStart => exact ⟨0, g2, cap2, l.length + 1, Nat.zero_le _, rfl, by simp, FE⟩
    case round =>
      obtain ⟨i, g6, c6, n6, hi6, rfl, rfl, HP⟩ := hrel
      clear FE
      have hn := HN.out
      by_cases hlt : i < n
      · obtain ⟨l, S, hl, h0, h4, HF⟩ := HP.out
        subst hl
        obtain ⟨b, o, rfl, hb, hT⟩ := HS.out (by omega)
        obtain ⟨⟨r1, r2⟩, r3, r4, c0, c1, c2, c3⟩ := hT i hlt
        obtain ⟨st, hst⟩ : ∃ st, T i = st := ⟨_, rfl⟩
        rw [hst] at r1 r2 r3 r4 c0 c1 c2 c3
        have kc : ∀ a v, a < 4 → w.cell? ⟨b, o + i * 4 + a, none⟩ = some v → wr.cell? ⟨b, o + i * 4 + a, none⟩ = some v := fun a v _ h => (HF.bel.cell (p := ⟨b, _, none⟩) hb).trans h
        have d0 := kc 0 _ (by omega) c0
        have d1 := kc 1 _ (by omega) c1
        have d2 := kc 2 _ (by omega) c2
        have d3 := kc 3 _ (by omega) c3
        simp only [Nat.add_zero] at d0
        have PK := fun w => pick_any st.2.1 r1 r2 l.length h0 (by omega) w
        have HFH := Lib.hid HF
        have HST := Lib.hid (And.intro hst (And.intro r3 r4))
        clear hT r1 r2 r3 r4 c0 c1 c2 c3 hst kc HF HP
        go_wp2_with fail
        refine (PK _).mono ?_
        rintro e w5 ⟨m, hm, rfl, rfl⟩
        have hx := List.getElem?_eq_getElem hm
        generalize l[m] = x at *
        have K1 := below_new (Below.refl wr.heap.size wr) (.cells #[.int .i64 st.1, .int .i64 st.2.1, .int .i64 st.2.2.1, .int .u64 st.2.2.2] 47)
        obtain ⟨q0, q1, q2, q3⟩ := (HFH.out.below K1).cells hx
        have K2 := below_new K1 (.cells #[.pointer (some ⟨x.b1, 0, none⟩), .pointer (some ⟨x.b2, 0, none⟩)] 27)
        have HPL : Hid (PL w l S g6 c6 wr.heap.size (wr.heap.size + 1) m st x ((wr.alloc (.cells #[.int .i64 st.1, .int .i64 st.2.1, .int .i64 st.2.2.1, .int .u64 st.2.2.2] 47)).alloc (.cells #[.pointer (some ⟨x.b1, 0, none⟩), .pointer (some ⟨x.b2, 0, none⟩)] 27))) := Lib.hid (by
          have hs : ∀ j : Nat, j < l.length → ∀ k, S j k → k < wr.heap.size := fun j hj => (HFH.out.ent j l[j] (List.getElem?_eq_getElem hj)).lt
          have hg : g6 < wr.heap.size := own_lt HFH.out.row rfl
          exact ⟨HFH.out.below K2, (Blk.new _ _ _).alloc _, Blk.new' _ _ (by simp), hx, fun i hi h => by have := hs i hi _ h; omega, fun i hi h => by have := hs i hi _ h; omega, by omega, by omega, HST.out.2.1, HST.out.2.2⟩)
        clear PK K1 K2 hx
        go_upto_block 2 with fail
        clear q0 q1 q2 q3
        generalize (wr.alloc (.cells #[.int .i64 st.1, .int .i64 st.2.1, .int .i64 st.2.2.1, .int .u64 st.2.2.2] 47)).alloc (.cells #[.pointer (some ⟨x.b1, 0, none⟩), .pointer (some ⟨x.b2, 0, none⟩)] 27) = ws at *
        refine plays_any HPL h4 _ _ _ _ _ _ _ _ _ _ _ _ _ _ _ _ _ _ _ _ _ _ _ _ _ _ _ _ _ _ _ _ _ _ _ _ _ _ _ _ _ _ _ _ _ _ _ _ _ _ _ _ _ _ _ _ _ _ _ _ _ _ _ _ _ _ _ _ _ _ _ _ _ _ _ _ _ _ _ _ _ _ _ _ _ _ _ _ _ _ _ _ _ _ _ _ _ _ _ _ _ _ _ _ _ _ _ _ _ _ _ _ _ _ _ _ _ _ _ _ _ _ _ _ _ _ _ _ _ _ _ _ _ _ _ _ _ _ _ _ _ _ _ _ _ _ _ _ _ _ _ _ _ _ _ _ _ ?_
        intro _ _ _ _ _ _ _ _ _ _ _ _ _ _ _ _ _ _ _ _ _ _ _ _ _ _ _ _ _ _ _ _ _ _ _ _ _ _ _ _ _ _ _ _ _ _ _ _ _ _ _ _ _ _ _ _ _ _ _ _ _ _ _ _ _ _ _ _ _ _ _ _ _ _ _ _ _ _ _ _ _ g6' c6' n' wx HE
        clear HPL
        go_upto_block 3 with fail
        refine plays_same HE _ _ _ _ _ _ _ _ _ _ _ _ _ _ _ _ _ _ _ _ _ _ _ _ _ _ _ _ _ _ _ _ _ _ _ _ _ _ _ _ _ _ _ _ _ _ _ _ _ _ _ _ _ _ _ _ _ _ _ _ _ _ _ _ _ _ _ _ _ _ _ _ _ _ _ _ _ _ _ _ _ _ _ _ _ _ _ _ _ _ _ _ _ _ _ _ _ _ _ _ _ _ _ _ _ _ _ _ _ _ _ _ _ _ _ _ _ _ _ _ _ _ _ _ _ _ _ _ _ _ _ _ _ _ _ _ _ _ _ _ _ _ _ _ _ _ _ _ _ _ _ _ _ _ _ _ _ _ _ _ ?_
        intro _ _ _ _ _ _ _ _ _ _ _ _ _ _ wy HY
        go_wp2_with fail
        go_roundw
        case rel => exact ⟨i + 1, g6', c6', n', by omega, by go_num, rfl, HY⟩
        case measure => simp [intOf]; omega
      · have g2 : decide (i < n) = false := by simpa using hlt
        go_wp2_with fail
        go_ret
        exact ⟨rfl, by obtain ⟨_, _, _, _, _, F⟩ := HP.out; exact F.bel⟩
end Go.Proofs.Ytanhhgifcolfaaa
