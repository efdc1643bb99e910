/-
  The reference's Build.
-/
import Derived.Test.YtnccgpdniigekaaQLvRBldP
namespace Go.Proofs.Ytnccgpdniigekaa
open Go.RowKit
set_option linter.unusedVariables false
set_option linter.unusedSimpArgs false
attribute [local go_sem high] run_store_float

theorem rbuild_bad (eps : Int) (h : eps < 2 ∨ 64 < eps) (A : Option Addr) (n c : Nat) (w : World) : Calls Try.prog 18 #[.slice A n c, .int .i64 eps] w fun e w' => e = .returned (.tuple #[.slice none 0 0, .int .i64 1]) ∧ w = w' := by
  by_cases h1 : eps < 2
  · clear h
    go_enter Try.func18, Try.ntmps18
    go_wp2_with fail
    simp [bodyPost, results, Try.results18, go_sem]
  · have h2 : 64 < eps := by omega
    clear h
    go_enter Try.func18, Try.ntmps18
    go_wp2_with fail
    simp [bodyPost, results, Try.results18, go_sem]
theorem rbuild_unsorted (eps : Int) (h1 : 2 ≤ eps) (h2 : eps ≤ 64) (A : Option Addr) (c : Nat) (K : List Int) (hn : K.length ≤ 17592186044416) (hu : ¬ K.Pairwise (· < ·)) (w : World) (hA : ArgU w A K) :
    Calls Try.prog 18 #[.slice A K.length c, .int .i64 eps] w fun e w' => e = .returned (.tuple #[.slice none 0 0, .int .i64 80]) ∧ Below w.heap.size w w' := by
  have R := ref_Rising A c K hn w hA
  rw [decide_eq_false hu] at R
  have a1 : ¬ eps < 2 := by omega
  have a2 : ¬ 64 < eps := by omega
  clear hA hu h1 h2
  go_enter Try.func18, Try.ntmps18
  go_wp2_with fail
  refine R.mono ?_
  rintro e w1 ⟨rfl, b1⟩
  have B1 := Lib.hid b1
  clear b1
  go_wp2_with fail
  simp [bodyPost, results, Try.results18, go_sem]
  exact B1.out
/-- The next step of the reference's loop. -/
theorem RI.next {w wr w1 : World} {eps : Int} {K : List Int} {A A2 : Option Addr} {c c2 n : Nat} {K' : List Int} {v v2 : Value} {vs vs2 : List Value} {ll : List (List Sg)} (h1 : 2 ≤ eps) (h2 : eps ≤ 64) (h : RI w eps K A c K' n v vs ll wr) (h0 : 0 < n)
    (ha : ArgU w1 A2 (firstsL (overL K' eps))) (hc : (overL K' eps).length ≤ c2) (hL : LLr w v2 vs2 (ll ++ [overL K' eps]) w1) :
    RI w eps K A2 c2 (firstsL (overL K' eps)) ((overL K' eps).length - 1) v2 vs2 (ll ++ [overL K' eps]) w1 ∧ (overL K' eps).length - 1 < n ∧ 1 ≤ (overL K' eps).length := by
  have hpos : 0 < K'.length := by have := h.num; omega
  have hne : K' ≠ [] := List.length_pos_iff.1 hpos
  have hp := (over_few h1 h2 h.up hpos).1
  have hn := h.num; have hl := h.len; have hcnt := h.cnt
  have hlt : (overL K' eps).length - 1 < n := by
    by_cases hone : (overL K' eps).length = 1
    · omega
    · have := over_less hne hone; omega
  have hle : (overL K' eps).length ≤ K'.length := by
    by_cases hone : (overL K' eps).length = 1
    · omega
    · exact Nat.le_of_lt (over_less hne hone)
  refine ⟨⟨ha, overL_first h.ok eps, over_up h1 h2 h.ok hl h.up hpos, by rw [firsts_len]; exact hc, hL, ?_, by simp; omega, .inr (by rw [firsts_len]; omega), by rw [firsts_len]; omega⟩, hlt, hp⟩
  rw [h.eq, if_pos h0]
  by_cases hone : (overL K' eps).length = 1
  · rw [buildL_one hne hone, if_neg (by omega), List.append_nil]
  · rw [buildL_more hne hone, if_pos (by omega)]; simp
theorem RI.pos {w wr : World} {eps : Int} {K : List Int} {A : Option Addr} {c n : Nat} {K' : List Int} {v : Value} {vs : List Value} {ll : List (List Sg)} (h : RI w eps K A c K' n v vs ll wr) (h0 : 0 < n) : 0 < K'.length := by have := h.num; omega
theorem scells_one (a : Int) (b c : Nat) (d e : Int) : ∀ u ∈ ([.int .u64 a, .float .f64 b, .float .f64 c, .int .i64 d, .int .i64 e] : List Value), u.oneCell' = true := by
  intro u hu; simp at hu; rcases hu with rfl | rfl | rfl | rfl | rfl <;> rfl
theorem seg_i64 {p n : Nat} (h : p ≤ n) (hn : n ≤ 4294967296) : i64ok (p : Int) := by unfold i64ok; omega
theorem wrap_nx9 {i n : Nat} (h : i < n) (hn : n ≤ 4294967296) : wrap64 ((i : Int) + 1) = (i : Int) + 1 := by unfold wrap64; omega
theorem len_nx9 {i n : Nat} (h : i < n) (hn : n ≤ 4294967296) : i + 1 ≤ maxLen ∧ (i + 1) * 40 ≤ 140737488355328 ∧ (i + 1) * 24 ≤ 140737488355328 := by unfold maxLen; omega
theorem len_nx8 {i m n : Nat} (h0 : 0 < m) (h : i + m ≤ n) (hn : n ≤ 4294967296) : i + 1 ≤ maxLen ∧ (i + 1) * 24 ≤ 140737488355328 := by unfold maxLen; omega
theorem wrap_len9 {m : Nat} (h : 1 ≤ m) (hn : m ≤ 4294967296) : wrap64 ((m : Int) - 1) = ((m - 1 : Nat) : Int) := by unfold wrap64; omega
theorem sub_len9 {m : Nat} (h : 1 ≤ m) : (m : Int) - 1 = ((m - 1 : Nat) : Int) := by omega
theorem cut_num {p t n c : Nat} (h1 : p < t) (h2 : t ≤ n) (h3 : n ≤ c) : (0 : Int) ≤ (p : Int) ∧ (p : Int) ≤ (t : Int) ∧ (t : Int) ≤ (c : Int) ∧ p < c ∧ (p : Int) < (c : Int) ∧ t ≤ c ∧ p ≤ t := by omega

set_option maxHeartbeats 8000000 in
set_option maxRecDepth 100000 in
theorem rbuild_good (eps : Int) (h1 : 2 ≤ eps) (h2 : eps ≤ 64) (A : Option Addr) (c : Nat) (K : List Int) (hK : U64s K) (hn : K.length ≤ 4294967296) (hc : K.length ≤ c) (hu : K.Pairwise (· < ·)) (w : World) (hA : ArgU w A K) :
    Calls Try.prog 18 #[.slice A K.length c, .int .i64 eps] w fun e w' => ∃ v vs, e = .returned (.tuple #[v, .int .i64 0]) ∧ LLr w v vs (buildL eps K) w' := by
  obtain ⟨ir, hir, hr0, hr1, hr2⟩ := info_parts infoR
  obtain ⟨iS, hi, hz0, hz1, hz2⟩ := info_parts infoS
  have R := ref_Rising A c K (by omega) w hA
  rw [decide_eq_true hu] at R
  have a1 : ¬ eps < 2 := by omega
  have a2 : ¬ 64 < eps := by omega
  have I0 : Hid (∀ w', Below w.heap.size w w' → RI w eps K A c K K.length (.slice (some ⟨w'.heap.size, 0, none⟩) 0 0) [] [] (w'.alloc (.cells #[] 30))) := Lib.hid fun w' k => ⟨hA.below (below_new k _), hK, hu, hc, LLr.start k, by
    by_cases h0 : 0 < K.length
    · rw [if_pos h0]; rfl
    · have : K = [] := List.eq_nil_of_length_eq_zero (by omega)
      subst this; rw [buildL_nil]; rfl, by simp, .inl rfl, hn⟩
  have HE := Lib.hid (And.intro h1 h2)
  clear hA hu h1 h2 hK hc
  go_enter Try.func18, Try.ntmps18
  go_wp2_with fail
  refine R.mono ?_
  rintro e w1 ⟨rfl, b1⟩
  have I1 := Lib.hid (I0.out _ b1)
  clear b1 I0
  go_wp2_with fail
  go_loopw [0, 6, 7] (fun x y z wr => ∃ (A' : Option Addr) (c' : Nat) (K' : List Int) (n : Nat) (vs : List Value) (ll : List (List Sg)), x = .slice A' K'.length c' ∧ z = .int .i64 n ∧ Hid (RI w eps K A' c' K' n y vs ll wr)) (fun _ _ z _ => (intOf z).toNat)
  case atStart => exact ⟨A, c, K, K.length, [], [], rfl, rfl, I1⟩
  case round =>
    obtain ⟨A', c', K', n, vs, ll, rfl, rfl, I⟩ := hrel
    clear I1
    by_cases h0 : 0 < n
    · have n0 : (0 : Int) < (n : Int) := Int.natCast_pos.2 h0
      have hpos := I.out.pos h0
      have HN0 := Lib.hid h0
      have ED := rends_all eps A' c' K' I.out.ok (Nat.le_trans I.out.len (by decide)) wr I.out.arg
      have OKE := Lib.hid (ansL_ok eps K')
      have OV := Lib.hid (show overL K' eps = segsN K' eps (ansL eps K') (ansL eps K').length from rfl)
      obtain ⟨E, hE⟩ : ∃ E, ansL eps K' = E := ⟨_, rfl⟩
      rw [hE] at ED OKE OV
      obtain ⟨ce, hce⟩ : ∃ ce, ansC eps K' = ce := ⟨_, rfl⟩
      rw [hce] at ED
      have hEl := OKE.out.len
      have HKL := Lib.hid I.out.len
      have HCNT := Lib.hid I.out.cnt
      clear hE hce h0
      go_wp2_with fail
      refine ED.mono ?_
      rintro e w2 ⟨AE, cE, rfl, hN, _, b2⟩
      have I2 := Lib.hid (And.intro hN b2)
      have F0 := Lib.hid (FS.start (Below.refl w2.heap.size w2))
      clear ED hN b2
      go_wp2_with fail
      go_loopw [10, 11, 12] (fun x y z wx => ∃ i : Nat, i ≤ E.length ∧ z = .int .i64 i ∧ y = .int .i64 (begN E i : Nat) ∧ Hid (FS w2 x (segsN K' eps E i) wx)) (fun _ _ z _ => E.length - (intOf z).toNat)
      case atStart => exact ⟨0, Nat.zero_le _, rfl, rfl, F0⟩
      case round =>
        obtain ⟨wi, rfl⟩ : ∃ wi : World, wi = wr := ⟨_, rfl⟩
        obtain ⟨i, hi', rfl, rfl, F⟩ := hrel
        clear F0
        by_cases hlt : i < E.length
        · have i0' : (0 : Int) ≤ (i : Int) := Int.natCast_nonneg i
          have i1 : (i : Int) < (E.length : Int) := Int.ofNat_lt.2 hlt
          obtain ⟨eb, eo, rfl, heb, hce0⟩ := I2.out.1.getD hlt
          have XE := Lib.hid (show ∀ w', Below w2.heap.size w2 w' → w'.cell? ⟨eb, eo + i, none⟩ = some (.int .i64 (E.getD i 0 : Int)) from fun w' k => (k.cell (p := ⟨eb, _, none⟩) heb).trans hce0)
          obtain ⟨p1, p2⟩ := OKE.out.at_ i hlt
          obtain ⟨b, o, rfl, hb, hkc⟩ := I.out.arg hpos
          have hcc := I.out.cap
          have SS := stretch_len (K := K') (p := begN E i) p2
          have BE := OKE.out.at_ i hlt
          have KL := HKL.out
          have SI := seg_i64 (Nat.le_trans (Nat.le_of_lt p1) p2) KL
          have SL : (stretch K' (begN E i) (E.getD i 0)).length ≤ 17592186044416 := by rw [SS]; exact Nat.le_trans (Nat.sub_le _ _) (Nat.le_trans p2 (Nat.le_trans KL (by decide)))
          have OF' : ∀ w', Below w2.heap.size w2 w' → Calls Try.prog 44 #[.slice (some ⟨b, o + begN E i, none⟩) (E.getD i 0 - begN E i) (c' - begN E i), .int .i64 eps, .int .i64 (begN E i : Nat)] w' fun e w3 => e = .returned (.tuple #[(segI K' eps E i).v, .int .i64 (ofS (stretch K' (begN E i) (E.getD i 0)) eps (begN E i)).2]) ∧ Below w'.heap.size w' w3 := fun w' k => by
            have := refOfS_any (some ⟨b, o + begN E i, none⟩) (c' - begN E i) (stretch K' (begN E i) (E.getD i 0)) eps (begN E i) SI (I.out.ok.stretch _ _) SL w' ((I.out.arg.below (below_next I2.out.2 k)).stretch _ _)
            rw [SS] at this
            exact this
          have HO := Lib.hid OF'
          have ST := Lib.hid (segsN_succ K' eps E i)
          have BN := begN_succ E i
          generalize (ofS (stretch K' (begN E i) (E.getD i 0)) eps (begN E i)).2 = er at HO
          obtain ⟨s, hs⟩ : ∃ s, segI K' eps E i = s := ⟨_, rfl⟩
          rw [hs] at HO ST
          obtain ⟨first, sl, ic, fr, up⟩ := s
          unfold Sg.v at HO
          simp only [] at HO
          have LN : (segsN K' eps E i).length = i := segsN_len _ _ _ _
          obtain ⟨L, hL⟩ : ∃ L, segsN K' eps E i = L := ⟨_, rfl⟩
          rw [hL] at F ST LN
          obtain ⟨p, hp⟩ : ∃ p, begN E i = p := ⟨_, rfl⟩
          obtain ⟨t, ht⟩ : ∃ t, E.getD i 0 = t := ⟨_, rfl⟩
          rw [ht] at XE p1 p2 HO BN
          rw [hp] at p1 HO ⊢
          have xe := XE.out _ F.out.bel
          obtain ⟨q0, q1, q2, q3, q4, q5, q6⟩ := cut_num p1 p2 hcc
          have v1 := wrap_nx9 hlt (Nat.le_trans hEl KL)
          have LB1 : L.length + 1 ≤ maxLen := LN ▸ (len_nx9 hlt (Nat.le_trans hEl KL)).1
          have LB2 : (L.length + 1) * 40 ≤ 140737488355328 := LN ▸ (len_nx9 hlt (Nat.le_trans hEl KL)).2.1
          have HBN := Lib.hid BN
          have HLN := Lib.hid LN
          clear OF' SI SL SS hs hL hp ht hkc hce0 BE KL p1 p2 hcc hb heb BN
          go_wp2_with fail
          refine (HO.out _ F.out.bel).mono ?_
          rintro e w3 ⟨rfl, b3⟩
          have F3 := Lib.hid (F.out.below b3)
          have DS : Hid (Blk (w3.alloc (.cells #[.int .u64 first, .float .f64 sl, .float .f64 ic, .int .i64 fr, .int .i64 up] 33)) w3.heap.size 33 #[.int .u64 first, .float .f64 sl, .float .f64 ic, .int .i64 fr, .int .i64 up]) := Lib.hid (Blk.new _ _ _)
          have F4 := Lib.hid (F3.out.below (below_new (Below.refl _ _) (.cells #[.int .u64 first, .float .f64 sl, .float .f64 ic, .int .i64 fr, .int .i64 up] 33)))
          clear HO b3 F xe
          go_upto_region 15 with fail
          obtain ⟨wz, hwz⟩ : ∃ wz, wz = w3.alloc (.cells #[.int .u64 first, .float .f64 sl, .float .f64 ic, .int .i64 fr, .int .i64 up] 33) := ⟨_, rfl⟩
          rw [← hwz] at DS F4 ⊢
          clear hwz F3
          have d0 := DS.out.cell 0; have d1 := DS.out.cell 1; have d2 := DS.out.cell 2; have d3 := DS.out.cell 3; have d4 := DS.out.cell 4
          have HO1 : Hid ((wz.alloc (.cells #[.int .u64 first, .float .f64 sl, .float .f64 ic, .int .i64 fr, .int .i64 up] 33)).ownsRow 0 33 5 u10 L.length (sflat L)) := Lib.hid (own_chg F4.out.own ((Chg.refl (fun _ => False) wz).alloc _) (fun _ _ h => h))
          have HFO := Lib.hid (scells_one first sl ic fr up)
          go_upto_region 16 with (at_builtin; go_loud (refine wpList_append_lies _ rfl (.tmp 55) (.tmp 57) 30 (by rfl) 0 33 iS _ 5 40 Try.underlying30 hi hz0 hz1 hz2 rfl (Nat.succ_pos 4) u10 L.length (sflat L) (by rfl) HO1.out ⟨wz.heap.size, 0, none⟩ 1 1 [.int .u64 first, .float .f64 sl, .float .f64 ic, .int .i64 fr, .int .i64 up] (by rfl) (by rfl) (World.news_of_block (Blk.new wz 33 #[.int .u64 first, .float .f64 sl, .float .f64 ic, .int .i64 fr, .int .i64 up])) HFO.out Nat.one_pos LB1 LB2 (Nat.zero_le _) (wz.heap.size + 1) (by simp) ?_; intro gn capn wn hown hgr hat hltn; have HG2 := Lib.hid (F4.out.grown (H := 0) (s := ⟨first, sl, ic, fr, up⟩) rfl hown hgr hat); clear hown hgr hat hltn))
          have xe := XE.out _ HG2.out.bel
          clear d0 d1 d2 d3 d4 DS F4 HO1 HFO
          go_wp2_with fail
          go_roundw
          case rel => exact ⟨i + 1, Nat.succ_le_of_lt hlt, (by first | (rw [v1]; rfl) | rfl), by rw [HBN.out], Lib.hid (by have h := HG2.out; rw [HLN.out] at h; rw [ST.out]; exact h)⟩
          case measure => first | (rw [v1]; exact meas_next hlt) | exact meas_next hlt
        · obtain rfl : i = E.length := Nat.le_antisymm hi' (Nat.le_of_not_lt hlt)
          have i1 : ¬ (E.length : Int) < (E.length : Int) := Int.lt_irrefl _
          rw [← OV.out] at F
          have NX := Lib.hid (fun A2 c2 v2 vs2 w9 ha hc hL => I.out.next (A2 := A2) (c2 := c2) (v2 := v2) (vs2 := vs2) (w1 := w9) HE.out.1 HE.out.2 HN0.out ha hc hL)
          obtain ⟨l, hl⟩ : ∃ l, overL K' eps = l := ⟨_, rfl⟩
          rw [hl] at F NX
          have LLN : l.length ≤ 4294967296 := by rw [← hl, OV.out, segsN_len]; have := HKL.out; omega
          obtain ⟨A3, c3, e3, hc3⟩ := own_slice F.out.own
          subst e3
          have LW := Lib.hid (I.out.lls.below (below_next I2.out.2 F.out.bel))
          have FW := Lib.hid F.out.own
          have FN := Lib.hid (fun g hg => Nat.le_trans I.out.lls.bel.size (Nat.le_trans I2.out.2.size (F.out.new g hg)))
          have HC3 := Lib.hid hc3
          have CB1 := (len_nx8 HN0.out HCNT.out hn).1
          have CB2 := (len_nx8 HN0.out HCNT.out hn).2
          have HO1 : Hid ((wi.alloc (.cells #[.slice A3 l.length c3] 30)).ownsRow 0 30 1 u6 ll.length vs) := Lib.hid (own_chg LW.out.row (Chg.of_below (below_new (Below.refl _ _) _)) (fun _ _ h => h))
          have HFO : Hid (∀ u ∈ [Value.slice A3 l.length c3], u.oneCell' = true) := Lib.hid (by intro u hu; simp at hu; subst hu; rfl)
          clear hl hc3 F hlt
          go_upto_region 18 with (at_builtin; go_loud (refine wpList_append_lies _ rfl (.tmp 63) (.tmp 65) 25 (by rfl) 0 30 ir _ 1 24 Try.underlying25 hir hr0 hr1 hr2 rfl Nat.one_pos u6 ll.length vs (by rfl) HO1.out ⟨wi.heap.size, 0, none⟩ 1 1 [.slice A3 l.length c3] (by rfl) (by rfl) (World.news_of_block (Blk.new wi 30 #[.slice A3 l.length c3])) HFO.out Nat.one_pos CB1 CB2 (Nat.zero_le _) (wi.heap.size + 1) (by simp) ?_; intro gn capn wn hown hgr hat hltn; have HG2 := Lib.hid (LW.out.snoc rfl FW.out FN.out hown hgr hat); have A9 := Lib.hid (own_args (own_chg FW.out (((Chg.refl _ wi).alloc _).grown hgr (fun k hk _ => hk)) (own_ne_own LW.out.row FW.out (by decide)))); clear hown hgr hat hltn))
          have RF := refFirsts_any A3 c3 l (Nat.le_trans LLN (by decide)) wn A9.out
          go_wp2_with fail
          refine RF.mono ?_
          rintro e w9 ⟨v9, rfl, F9⟩
          obtain ⟨A4, c4, e4, hA4, hc4⟩ := F9.arg
          subst e4
          rw [firsts_len] at hc4
          obtain ⟨N1, N2, N3⟩ := NX.out A4 c4 _ _ w9 hA4 hc4 (HG2.out.below F9.bel)
          have N1 := Lib.hid N1
          have HFL := Lib.hid (firsts_len l)
          have HV1 := Lib.hid (sub_len9 N3)
          clear RF A9 F9 hA4 hc4 NX
          go_wp2_with fail
          go_roundw
          case rel => exact ⟨A4, c4, firstsL l, l.length - 1, _, _, rfl, (by rw [HV1.out]), N1⟩
          case measure => rw [HV1.out]; exact N2
    · have n0 : ¬ (0 : Int) < (n : Int) := fun h => h0 (Int.natCast_pos.1 h)
      have E := Lib.hid (show buildL eps K = ll from by have := I.out.eq; rwa [if_neg h0, List.append_nil] at this)
      go_wp2_with fail
      simp [bodyPost, results, Try.results18, go_sem]
      exact ⟨vs, by rw [E.out]; exact I.out.lls⟩
end Go.Proofs.Ytnccgpdniigekaa
