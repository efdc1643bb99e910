/-
  The law: few, and low.
-/
import Derived.Test.YtnccgpdniigekaaQLvL2
namespace Go.Proofs.Ytnccgpdniigekaa
open Go.RowKit
set_option linter.unusedVariables false
set_option linter.unusedSimpArgs false
attribute [local go_sem high] run_store_float

theorem wrap_nx {i n : Nat} (h : i < n) (hn : n ≤ 17592186044416) : wrap64 ((i : Int) + 1) = (i : Int) + 1 := by unfold wrap64; omega
theorem few_arith {n e m l : Nat} (hm : n / e = m) (h1 : 1 ≤ l) (h2 : l ≤ m + 1) (hn : n ≤ 4294967296) (he : 2 ≤ e) :
    (n : Int) / (e : Int) = (m : Int) ∧ (n : Int).tdiv (e : Int) = (m : Int) ∧ wrap64 (m : Int) = m ∧ wrap64 ((m : Int) + 1) = m + 1 ∧ IntKind.i64.wrap (m : Int) = m ∧ IntKind.i64.wrap ((m : Int) + 1) = m + 1 ∧ ¬ (l : Int) < 1 ∧ ¬ (m : Int) + 1 < (l : Int) ∧ (0 : Int) < (e : Int) ∧ ((e : Int) == 0) = false := by
  have mb : m ≤ n := by rw [← hm]; exact Nat.div_le_self _ _
  have d1 : (n : Int) / (e : Int) = (m : Int) := by rw [← hm, Int.natCast_ediv]
  have d2 : (n : Int).tdiv (e : Int) = (m : Int) := by rw [← hm]; rfl
  have w1 : wrap64 (m : Int) = m := by clear d1 d2 hm; unfold wrap64; omega
  have w2 : wrap64 ((m : Int) + 1) = m + 1 := by clear d1 d2 hm w1; unfold wrap64; omega
  refine ⟨d1, d2, w1, w2, ?_, ?_, ?_, ?_, ?_, ?_⟩
  · exact IntWalk.i64_in _ (by clear d1 d2 w1 w2 hm; omega)
  · exact IntWalk.i64_in _ (by clear d1 d2 w1 w2 hm; omega)
  all_goals clear d1 d2 w1 w2 hm
  · omega
  · omega
  · omega
  · rw [beq_eq_false_iff_ne]; omega
theorem few_round {p t n e k m q : Nat} (h : p < t) (ht : t ≤ n) (hn : n ≤ 4294967296) (he : 2 ≤ e ∧ e ≤ 64) (hk : k < m) (hm : m ≤ q) (hq : q ≤ 4294967296) :
    ¬ (t : Int) ≤ (p : Int) ∧ wrap64 ((k : Int) + 1) = (k : Int) + 1 ∧ wrap64 ((t : Int) - (p : Int)) = (t : Int) - p ∧ wrap64 (2 * (e : Int)) = 2 * e ∧ wrap64 (2 * (e : Int) - 1) = 2 * e - 1 := by
  unfold wrap64; omega
theorem few_more {p t e : Nat} (h : (p : Int) + (2 * (e : Int) - 1) ≤ t) : ¬ (t : Int) - (p : Int) < 2 * (e : Int) - 1 := by omega
theorem nat_lt1 {k m : Nat} (h : k + 1 < m) : (k : Int) + 1 < (m : Int) := by omega
theorem nat_nlt1 {k m : Nat} (h : ¬ k + 1 < m) : ¬ (k : Int) + 1 < (m : Int) := by omega
structure FewAt (eps : Int) (n : Nat) (l : List Sg) : Prop where
  pos : 1 ≤ l.length
  few : l.length ≤ n / eps.toNat + 1
  tile : ∃ a : Nat → Nat, a 0 = 0 ∧ a l.length = n ∧ ∀ k, k < l.length → (l.getD k zS).fr = a k ∧ (l.getD k zS).up = a (k + 1) ∧ a k < a (k + 1) ∧ a (k + 1) ≤ n ∧ (k + 1 < l.length → (a k : Int) + (2 * eps - 1) ≤ a (k + 1))
def FewT (eps : Int) : Nat → List (List Sg) → Prop
  | n, [] => n = 1
  | n, l :: ll => FewAt eps n l ∧ FewT eps l.length ll
theorem FewT.step {eps : Int} {n : Nat} {ll : List (List Sg)} {i : Nat} {l : List Sg} (h : FewT eps n (ll.drop i)) (hi : i < ll.length) (hl : ll.getD i [] = l) : FewAt eps n l ∧ FewT eps l.length (ll.drop (i + 1)) := by
  rw [drop_at [] ll hi, hl] at h
  exact h
theorem over_fewAt {eps : Int} {K : List Int} (h1 : 2 ≤ eps) (h2 : eps ≤ 64) (hU : U64s K) (hn : K.length ≤ 4294967296) (hu : K.Pairwise (· < ·)) (h0 : 0 < K.length) : FewAt eps K.length (overL K eps) := by
  obtain ⟨b1, b2⟩ := over_begs h1 h2 hu h0
  obtain ⟨f1, _, f3⟩ := over_few h1 h2 hu h0
  exact ⟨f1, over_div h1 h2 hu h0, begN (endsL (eps - 1) K), rfl, b2, fun k hk => ⟨(over_seg h1 h2 hU hn hu hk).fr, (over_seg h1 h2 hU hn hu hk).up, (b1 k hk).1, (b1 k hk).2, fun hk1 => f3 k hk1⟩⟩
theorem build_few {eps : Int} (h1 : 2 ≤ eps) (h2 : eps ≤ 64) : ∀ n (K : List Int), K.length = n → U64s K → K.length ≤ 4294967296 → K.Pairwise (· < ·) → 0 < K.length → FewT eps K.length (buildL eps K) := by
  intro n
  induction n using Nat.strongRecOn with
  | ind n ih =>
    intro K hK hU hn hu h0
    have hne : K ≠ [] := List.length_pos_iff.1 h0
    have hf := over_fewAt h1 h2 hU hn hu h0
    by_cases hone : (overL K eps).length = 1
    · rw [buildL_one hne hone]; exact ⟨hf, hone⟩
    · rw [buildL_more hne hone]
      have hless := over_less hne hone
      have hpos := hf.pos
      have := ih _ (by rw [← hK, firsts_len]; exact hless) (firstsL (overL K eps)) rfl (overL_first hU eps) (by rw [firsts_len]; omega) (over_up h1 h2 hU hn hu h0) (by rw [firsts_len]; omega)
      rw [firsts_len] at this
      exact ⟨hf, this⟩
theorem build_low {eps : Int} {K : List Int} (h1 : 2 ≤ eps) (h2 : eps ≤ 64) (hU : U64s K) (hn : K.length ≤ 4294967296) (hu : K.Pairwise (· < ·)) :
    ((buildL eps K).length : Int) ≤ mhI K.length eps ∧ ((buildL eps K).length = 0 ↔ K.length = 0) ∧ (0 < K.length → FewT eps K.length (buildL eps K)) := by
  by_cases h0 : K = []
  · subst h0; rw [buildL_nil]
    refine ⟨?_, Iff.rfl, fun h => absurd h (by simp)⟩
    unfold mhI; rw [if_pos (by simp)]; simp
  · have hl : 0 < K.length := List.length_pos_iff.2 h0
    obtain ⟨r1, r2, r3, r4⟩ := build_right h1 h2 _ K rfl hU hn hu hl
    refine ⟨?_, by omega, fun _ => build_few h1 h2 _ K rfl hU hn hu hl⟩
    unfold mhI
    rw [if_neg (by omega), Int.toNat_natCast]
    omega

set_option maxHeartbeats 4000000 in
set_option maxRecDepth 100000 in
theorem lvFew_walk (A : Option Addr) (c : Nat) (K : List Int) (hK : U64s K) (hn : K.length ≤ 4294967296) (hc : K.length ≤ c) (eps : Int) (w : World) (hA : ArgU w A K) :
    Calls Try.prog 7 #[.slice A K.length c, .int .i64 eps] w fun e w' => e = .returned (.bool true) ∧ Below w.heap.size w w' := by
  have SH := shown8 w
  have HA := Lib.hid hA
  by_cases hb : eps < 2 ∨ 64 < eps
  · have BB := fun w' => build_bad eps hb A K.length c w'
    have HB := Lib.hid hb
    clear hA hb
    go_enter Try.func7, Try.ntmps7
    go_wp2_with fail
    refine SH.mono ?_
    rintro e w1 ⟨rfl, b1⟩
    have B1 := Lib.hid b1
    clear b1
    go_wp2_with fail
    refine (BB _).mono ?_
    rintro e w2 ⟨rfl, rfl⟩
    by_cases h1 : eps < 2
    · go_wp2_with fail
      go_ret
      exact ⟨rfl, B1.out⟩
    · have h2 : 64 < eps := by have := HB.out; omega
      go_wp2_with fail
      go_ret
      exact ⟨rfl, B1.out⟩
  · have h1 : ¬ eps < 2 := by omega
    have h2 : ¬ 64 < eps := by omega
    by_cases hu : K.Pairwise (· < ·)
    · have BG := fun w' (h : ArgU w' A K) => build_good eps (by omega) (by omega) A c K hK hn hc hu w' h
      obtain ⟨LO, IFF, FW⟩ := build_low (eps := eps) (by omega) (by omega) hK hn hu
      have SG := Lib.hid (build_segs (eps := eps) (by omega) (by omega) hK hn hu)
      have RR := fun w' (h : ArgU w' A K) => ref_Rising A c K (by omega) w' h
      rw [decide_eq_true hu] at RR
      have MH := fun w' => maxHeight_any (K.length : Int) eps (by omega) w'
      obtain ⟨e, rfl⟩ := Int.eq_ofNat_of_zero_le (show 0 ≤ eps by omega)
      have EB : Hid (2 ≤ e ∧ e ≤ 64) := Lib.hid (by omega)
      generalize buildL (e : Int) K = ll at *
      have z0 : ¬ mhI (K.length : Int) (e : Int) < (ll.length : Int) := by omega
      generalize mhI (K.length : Int) (e : Int) = mh at *
      obtain ⟨bz, z1, z2, z3⟩ : ∃ bz : Bool, ((ll.length : Int) == 0) = bz ∧ ((K.length : Int) == 0) = bz ∧ (bz = false → ll.length ≠ 0) := ⟨((ll.length : Int) == 0), rfl, by
          rw [Bool.eq_iff_iff, beq_iff_eq, beq_iff_eq]; omega, fun h => by rw [beq_eq_false_iff_ne] at h; omega⟩
      have BZ := Lib.hid z3
      clear z3
      have F0 : Hid (ll.length = 0 ∨ FewT (e : Int) K.length (ll.drop 0)) := Lib.hid (by
        by_cases h : ll.length = 0
        · exact .inl h
        · exact .inr (FW (by omega)))
      have HN := Lib.hid hn
      clear hA hb hu hc hn hK LO FW IFF
      go_enter Try.func7, Try.ntmps7
      go_wp2_with fail
      refine SH.mono ?_
      rintro e w1 ⟨rfl, b1⟩
      have B1 := Lib.hid b1
      clear b1
      go_wp2_with fail
      refine (BG _ (HA.out.below B1.out)).mono ?_
      rintro e w2 ⟨v, gs, rfl, L⟩
      obtain ⟨B, d, rfl, hB⟩ := L.arg
      have S2 := Lib.hid (And.intro hB (below_next B1.out L.bel))
      clear L hB BG
      go_wp2_with fail
      refine (RR _ (HA.out.below S2.out.2)).mono ?_
      rintro e w3 ⟨rfl, b3⟩
      have S3 := Lib.hid (And.intro (S2.out.1.below b3) (below_next S2.out.2 b3))
      clear b3 S2 RR
      go_wp2_with fail
      refine (MH _).mono ?_
      rintro e w4 ⟨rfl, rfl⟩
      go_wp2_with fail
      go_loopw [8, 9] (fun x y wr => ∃ (i n : Nat), i ≤ ll.length ∧ x = .int .i64 n ∧ y = .int .i64 i ∧ Hid ((ll.length = 0 ∨ FewT (e : Int) n (ll.drop i)) ∧ n ≤ 4294967296 ∧ ArgSS wr B ll ∧ Below w.heap.size w wr)) (fun _ y _ => ll.length - (intOf y).toNat)
      case atStart => exact ⟨0, K.length, Nat.zero_le _, rfl, rfl, Lib.hid ⟨F0.out, HN.out, S3.out⟩⟩
      case round =>
        obtain ⟨i, n, hi', rfl, rfl, I⟩ := hrel
        clear S3 F0
        by_cases hlt : i < ll.length
        · have i0 : (0 : Int) ≤ (i : Int) := by omega
          have i1 : (i : Int) < (ll.length : Int) := by omega
          obtain ⟨b, o, rfl, hb, hc⟩ := I.out.2.2.1 (by omega)
          obtain ⟨A2, c2, hcell0, hseg0⟩ := hc i hlt
          obtain ⟨l, hl⟩ : ∃ l, ll.getD i [] = l := ⟨_, rfl⟩
          rw [hl] at hcell0 hseg0
          obtain ⟨FA, FT⟩ := (I.out.1.resolve_left (by omega)).step hlt hl
          have LL1 := (SG.out.1 l (mem_getD hlt hl)).2
          have LL2 := SG.out.2
          have v0 := wrap_nx hlt (by have := HN.out; omega)
          obtain ⟨FP, FQ, a, a0, an, FR⟩ := FA
          rw [Int.toNat_natCast] at FQ
          obtain ⟨m, hm⟩ : ∃ m, n / e = m := ⟨_, rfl⟩
          rw [hm] at FQ
          obtain ⟨q0, q0', q1, q2, q1', q2', q3, q4, q5, q6⟩ := few_arith hm FP FQ I.out.2.1 EB.out.1
          have q3b : decide ((l.length : Int) < 1) = false := decide_eq_false q3
          have q4b : decide ((m : Int) + 1 < (l.length : Int)) = false := decide_eq_false q4
          have TA := Lib.hid (And.intro a0 an)
          have TR := Lib.hid FR
          have TT := Lib.hid FT
          have LB := Lib.hid (And.intro LL1 HN.out)
          have X := Lib.hid (show ∀ w', Below wr.heap.size wr w' → w'.cell? ⟨b, o + i, none⟩ = some (.slice A2 l.length c2) ∧ ArgS w' A2 l from fun w' k => ⟨(k.cell (p := ⟨b, _, none⟩) hb).trans hcell0, hseg0.below k⟩)
          obtain ⟨xa, xs⟩ := X.out _ (Below.refl _ _)
          clear hc hseg0 hl FP FQ a0 an FR FT LL1 LL2 hm hb xs hcell0
          go_wp2_with fail
          go_quiet (fail)
          go_wp2_with fail
          have BQ := Lib.hid (drewN_below (Below.refl wr.heap.size wr) nq)
          clear q0 q0' q1 q2 q1' q2' q3 q4 q5 q6 q3b q4b xa
          generalize wr.drewN nq = wd at *
          go_loopw [10, 11] (fun x y wx => ∃ k : Nat, k ≤ l.length ∧ x = .int .i64 (a k : Nat) ∧ y = .int .i64 k ∧ Hid (Below wr.heap.size wr wx)) (fun _ y _ => l.length - (intOf y).toNat)
          case atStart => exact ⟨0, Nat.zero_le _, by rw [TA.out.1]; rfl, rfl, BQ⟩
          case round =>
            obtain ⟨wi, rfl⟩ : ∃ wi : World, wi = wr := ⟨_, rfl⟩
            obtain ⟨k, hk', rfl, rfl, J⟩ := hrel
            obtain ⟨xa, xs⟩ := X.out _ J.out
            by_cases hkl : k < l.length
            · have k0 : (0 : Int) ≤ (k : Int) := by omega
              have k1 : (k : Int) < (l.length : Int) := by omega
              obtain ⟨b5, o5, rfl, hb5, hc5⟩ := xs (by omega)
              obtain ⟨s0, s1, s2, s3, s4⟩ := hc5 k hkl
              obtain ⟨r1, r2, r3, r4, r5⟩ := TR.out k hkl
              obtain ⟨s, hs⟩ : ∃ s, l.getD k zS = s := ⟨_, rfl⟩
              rw [hs] at s0 s1 s2 s3 s4 r1 r2
              obtain ⟨p, hp⟩ : ∃ p, a k = p := ⟨_, rfl⟩
              obtain ⟨t, ht⟩ : ∃ t, a (k + 1) = t := ⟨_, rfl⟩
              rw [hp] at r1 r3 r5 ⊢
              rw [ht] at r2 r3 r4 r5
              have HT := Lib.hid ht
              obtain ⟨first, sl, ic, fr, up⟩ := s
              simp only [] at s0 s1 s2 s3 s4 r1 r2
              subst r1 r2
              obtain ⟨f2, v1, v2, v3, v5⟩ := few_round r3 r4 I.out.2.1 EB.out hkl LB.out.1 LB.out.2
              have K9 := Lib.hid (below_new J.out (.cells #[.int .u64 first, .float .f64 sl, .float .f64 ic, .int .i64 (p : Int), .int .i64 (t : Int)] 33))
              have hxa := cell_lt xa
              by_cases hk1 : k + 1 < l.length
              · have k2 := nat_lt1 hk1
                have f3 := few_more (r5 hk1)
                clear hs hp ht hc5 r3 r4 r5 hb5 hk1
                go_wp2_with fail
                go_roundw
                case rel => exact ⟨k + 1, Nat.succ_le_of_lt hkl, by rw [HT.out], (by first | (rw [v1]; rfl) | rfl), K9⟩
                case measure => first | (rw [v1]; exact meas_next hkl) | exact meas_next hkl
              · have k2 := nat_nlt1 hk1
                clear hs hp ht hc5 r3 r4 r5 hb5 hk1
                go_wp2_with fail
                go_roundw
                case rel => exact ⟨k + 1, Nat.succ_le_of_lt hkl, by rw [HT.out], (by first | (rw [v1]; rfl) | rfl), K9⟩
                case measure => first | (rw [v1]; exact meas_next hkl) | exact meas_next hkl
            · obtain rfl : k = l.length := by omega
              have k1 : ¬ (l.length : Int) < (l.length : Int) := by omega
              rw [TA.out.2]
              have I9 := Lib.hid (show (ll.length = 0 ∨ FewT (e : Int) l.length (ll.drop (i + 1))) ∧ l.length ≤ 4294967296 ∧ ArgSS wi (some ⟨b, o, none⟩) ll ∧ Below w.heap.size w wi from ⟨.inr TT.out, by have := LB.out; omega, I.out.2.2.1.below J.out, below_next I.out.2.2.2 J.out⟩)
              clear xs hkl
              go_wp2_with fail
              go_roundw
              case rel => exact ⟨i + 1, l.length, Nat.succ_le_of_lt hlt, rfl, (by first | (rw [v0]; rfl) | rfl), I9⟩
              case measure => first | (rw [v0]; exact meas_next hlt) | exact meas_next hlt
        · have hie : i = ll.length := by omega
          subst hie
          have i1 : ¬ (ll.length : Int) < (ll.length : Int) := by omega
          cases bz
          · have n1 : n = 1 := by
              have h := I.out.1.resolve_left (BZ.out rfl)
              rw [List.drop_eq_nil_of_le (Nat.le_refl _)] at h
              exact h
            subst n1
            go_wp2_with fail
            go_ret
            exact ⟨rfl, I.out.2.2.2⟩
          · go_wp2_with fail
            go_ret
            exact ⟨rfl, I.out.2.2.2⟩
    · have BU := fun w' (h : ArgU w' A K) => build_unsorted eps (by omega) (by omega) A c K (by omega) hu w' h
      have RR := fun w' (h : ArgU w' A K) => ref_Rising A c K (by omega) w' h
      rw [decide_eq_false hu] at RR
      clear hA hb hu
      go_enter Try.func7, Try.ntmps7
      go_wp2_with fail
      refine SH.mono ?_
      rintro e w1 ⟨rfl, b1⟩
      have B1 := Lib.hid b1
      clear b1
      go_wp2_with fail
      refine (BU _ (HA.out.below B1.out)).mono ?_
      rintro e w2 ⟨rfl, b2⟩
      have B2 := Lib.hid (below_next B1.out b2)
      clear b2
      go_wp2_with fail
      refine (RR _ (HA.out.below B2.out)).mono ?_
      rintro e w3 ⟨rfl, b3⟩
      have B3 := Lib.hid (below_next B2.out b3)
      clear b3
      go_wp2_with fail
      go_ret
      exact ⟨rfl, B3.out⟩
end Go.Proofs.Ytnccgpdniigekaa
