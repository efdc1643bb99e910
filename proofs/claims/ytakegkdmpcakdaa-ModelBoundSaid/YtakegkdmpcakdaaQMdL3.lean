/-
  The law ModelRises: its walk.
-/
import Derived.Test.YtakegkdmpcakdaaQMdL2
import Derived.Test.YtakegkdmpcakdaaQMdRise
namespace Go.Proofs.Ytakegkdmpcakdaa
open Go.RowKit
set_option linter.unusedVariables false
set_option linter.unusedSimpArgs false
attribute [local go_sem high] binOp_lss64 binOp_gtr64 binOp_geq64 binOp_leq64 binOp_eql64 binOp_neq64 f64bits frombits run_store_float

theorem rank_facts {s : Sg} (h : Right s) {L : List Int} (hn : (L.length : Int) = s.up - s.fr) (q : Int) :
    IntKind.i64.wrap (s.fr + belowN L q L.length) = s.fr + belowN L q L.length ∧ IntKind.i64.wrap (guess s q - (s.fr + belowN L q L.length)) = guess s q - (s.fr + belowN L q L.length) ∧ IntKind.i64.wrap (-(guess s q - (s.fr + belowN L q L.length))) = -(guess s q - (s.fr + belowN L q L.length)) := by
  have h1 := h.fr; have h3 := h.run
  have g := guess_in h q
  have b := belowN_le L q L.length
  exact ⟨IntWalk.i64_in _ (by omega), IntWalk.i64_in _ (by omega), IntWalk.i64_in _ (by omega)⟩

set_option maxHeartbeats 8000000 in
set_option maxRecDepth 100000 in
theorem modelRises_walk (s : Sb) (hs : SbOk s) (A : Option Addr) (c : Nat) (L : List Int) (hL : U64s L) (hn : L.length ≤ 17592186044416) (A2 : Option Addr) (c2 : Nat) (P : List Int) (hP : U64s P) (hm : P.length ≤ 17592186044416) (w : World) (hA : ArgU w A L) (hA2 : ArgU w A2 P) :
    Calls Try.prog 8 #[s.v, .slice A L.length c, .slice A2 P.length c2] w fun e w' => e = .returned (.bool true) ∧ Below w.heap.size w w' := by
  have T0 := Lib.hid (TB.new s w)
  have SH := fun w => shown7 w
  have OF := fun w => segOf_any s w
  have C1 := fun w => check_any s.sg hs.sg w
  have C2 := fun w => refCheck_any s.sg hs.sg w
  have HS := Lib.hid hs.sg
  have HF : Hid (u64ok s.sg.first) := Lib.hid hs.hf
  have HA := Lib.hid hA
  have HU := Lib.hid hL
  have HA2 := Lib.hid hA2
  have HP := Lib.hid hP
  have GS : Hid (∀ q, u64ok q → ∀ w, Calls Try.prog 19 #[s.sg.v, .int .u64 q] w fun e w' => e = .returned (.int .i64 (guess s.sg q)) ∧ Below w.heap.size w w') := Lib.hid fun q hq w => guess_any s.sg HS.out q hq w
  have O1 : Hid (∀ (w' : World), ArgU w' A L → Calls Try.prog 21 #[s.sg.v, .slice A L.length c] w' fun e w2 => e = .returned (.tuple #[.int .i64 (offI s.sg L).1, .int .i64 (offI s.sg L).2]) ∧ Below w'.heap.size w' w2) := Lib.hid fun w' h => off_any s.sg HS.out A c L HU.out hn w' h
  have O2 : Hid (∀ (w' : World), ArgU w' A L → Calls Try.prog 22 #[s.sg.v, .slice A L.length c] w' fun e w2 => e = .returned (.tuple #[.int .i64 (offI s.sg L).1, .int .i64 (offI s.sg L).2]) ∧ Below w'.heap.size w' w2) := Lib.hid fun w' h => refOff_any s.sg HS.out A c L HU.out hn w' h
  have BL : Hid (∀ q w', ArgU w' A L → Calls Try.prog 24 #[.slice A L.length c, .int .u64 q] w' fun e w2 => e = .returned (.int .i64 (belowN L q L.length)) ∧ w' = w2) := Lib.hid fun q w' h => belowN_any A c L q hn w' h
  have u5 : u64ok 5 := by unfold u64ok; omega
  have G5 := GS.out 5 u5
  clear hs hA hL hA2 hP u5
  obtain ⟨first, sl, ic, fr, up⟩ := s
  unfold Sb.sg at OF C1 C2 GS O1 O2 HS HF G5
  unfold Sg.v at OF C1 C2 GS O1 O2 G5
  unfold Sb.v at OF ⊢
  simp only [] at OF C1 C2 GS O1 O2 HS HF G5 ⊢
  by_cases hk : chk ⟨first, sl.toNat, ic.toNat, fr, up⟩ = 0
  · have HR := Lib.hid (chk_right.1 hk)
    rw [hk] at C1 C2
    clear hk G5
    go_enter Try.func8, Try.ntmps8
    go_wp2_with fail
    refine (SH _).mono ?_
    rintro e w1 ⟨rfl, b1⟩
    have T1 := Lib.hid (T0.out.below b1)
    obtain ⟨c0, c1, c2, c3, c4⟩ := T1.out.all
    clear b1 T0 SH
    go_wp2_with fail
    refine (OF _).mono ?_
    rintro e w2 ⟨rfl, b2⟩
    have K2 := Lib.hid (SB.late (T1.out.below b2).bel ⟨first, sl.toNat, ic.toNat, fr, up⟩)
    obtain ⟨_, d0, d1, d2, d3, d4⟩ := K2.out.all
    clear b2 T1 OF c0 c1 c2 c3 c4
    go_wp2_with fail
    refine (C1 _).mono ?_
    rintro e w3 ⟨rfl, b3⟩
    have K3 := Lib.hid (K2.out.below b3)
    clear d0 d1 d2 d3 d4 b3 K2 C1
    obtain ⟨_, d0, d1, d2, d3, d4⟩ := K3.out.all
    go_wp2_with fail
    refine (C2 _).mono ?_
    rintro e w4 ⟨rfl, b4⟩
    have K4 := Lib.hid (K3.out.below b4)
    clear d0 d1 d2 d3 d4 b4 K3 C2
    obtain ⟨_, d0, d1, d2, d3, d4⟩ := K4.out.all
    go_wp2_with fail
    go_loopw [12] (fun x wr => ∃ i : Nat, i ≤ P.length ∧ x = .int .i64 i ∧ Hid (SB w w2.heap.size ⟨first, sl.toNat, ic.toNat, fr, up⟩ wr)) (fun x _ => P.length - (intOf x).toNat)
    case atStart => exact ⟨0, Nat.zero_le _, rfl, K4⟩
    case round =>
      obtain ⟨i, hi, rfl, K⟩ := hrel
      clear K4 d0 d1 d2 d3 d4
      by_cases hlt : i < P.length
      · have i0 : (0 : Int) ≤ (i : Int) := by omega
        have i1 : (i : Int) < (P.length : Int) := by omega
        obtain ⟨b, o, rfl, hb, hc0, hc⟩ := HA2.out.first (by omega)
        have CC : Hid (∀ w', Below w.heap.size w w' → w'.cell? ⟨b, o + i, none⟩ = some (.int .u64 (P.getD i 0))) := Lib.hid fun w' k => (k.cell (p := ⟨b, _, none⟩) hb).trans (hc i hlt)
        have CK : Hid (∀ k, k < P.length → ∀ w', Below w.heap.size w w' → w'.cell? ⟨b, o + k, none⟩ = some (.int .u64 (P.getD k 0))) := Lib.hid fun k hk w' l => (l.cell (p := ⟨b, _, none⟩) hb).trans (hc k hk)
        have HQ := Lib.hid (HP.out.getD hlt)
        have P1 := GS.out (P.getD i 0) HQ.out
        have GI := guess_in HR.out (P.getD i 0)
        simp only [] at GI
        obtain ⟨k, hk⟩ : ∃ k, P.getD i 0 = k := ⟨_, rfl⟩
        rw [hk] at CC P1 GI HQ
        obtain ⟨gv, hg⟩ : ∃ gv, guess ⟨first, sl.toNat, ic.toNat, fr, up⟩ k = gv := ⟨_, rfl⟩
        rw [hg] at P1 GI
        have HG := Lib.hid (And.intro hk hg)
        clear hb hc0 hc hk hg
        have g1 : ¬ gv < fr := by omega
        have g2 : ¬ up < gv := by omega
        clear GI
        obtain ⟨_, c0, c1, c2, c3, c4⟩ := K.out.all
        have ck := CC.out _ K.out.bel
        go_upto_region 13 with fail
        go_region_held3 (fun w' => SB w w2.heap.size ⟨first, sl.toNat, ic.toNat, fr, up⟩ w' ∧ w'.cell? ⟨w2.heap.size, 0, none⟩ = some (.int .u64 first) ∧ w'.cell? ⟨w2.heap.size, 1, none⟩ = some (.float .f64 sl.toNat) ∧ w'.cell? ⟨w2.heap.size, 2, none⟩ = some (.float .f64 ic.toNat) ∧ w'.cell? ⟨w2.heap.size, 3, none⟩ = some (.int .i64 fr) ∧ w'.cell? ⟨w2.heap.size, 4, none⟩ = some (.int .i64 up) ∧ w'.cell? ⟨b, o + i, none⟩ = some (.int .u64 k))
          (first | exact And.intro K.out.drew.all.1 (and_last K.out.drew.all.2 (CC.out _ K.out.drew.bel)) | exact And.intro HB.out.all.1 (and_last HB.out.all.2 (CC.out _ HB.out.bel)) | go_keep)
          (first | (go_at_call 19; (with_reducible refine (P1 _).mono ?_); rintro e5 w5 ⟨rfl, b5⟩; have HB := Lib.hid ((‹SB _ _ _ _ ∧ _›).1.below b5)))
        clear c0 c1 c2 c3 c4 ck K P1
        obtain ⟨_, c0, c1, c2, c3, c4⟩ := HB.out.all
        go_wp2_with fail
        clear c0 c1 c2 c3 c4
        go_loopw [14] (fun x wr => ∃ j : Nat, j ≤ i ∧ j ≤ 40 ∧ x = .int .i64 j ∧ Hid (SB w w2.heap.size ⟨first, sl.toNat, ic.toNat, fr, up⟩ wr)) (fun x _ => i - (intOf x).toNat)
        case atStart => exact ⟨0, Nat.zero_le _, by omega, rfl, HB⟩
        case round =>
          obtain ⟨j, hj, hj4, rfl, K⟩ := hrel
          clear HB
          by_cases hlj : j < i
          · have g3 : (j : Int) < (i : Int) := by omega
            by_cases h40 : j < 40
            · have g4 : (j : Int) < 40 := by omega
              have j0 : (0 : Int) ≤ (j : Int) := by omega
              have j1 : (j : Int) < (P.length : Int) := by omega
              have CJ := Lib.hid (CK.out j (by omega))
              have HQ2 := Lib.hid (HP.out.getD (show j < P.length by omega))
              have P2 := GS.out (P.getD j 0) HQ2.out
              obtain ⟨k', hk'⟩ : ∃ k', P.getD j 0 = k' := ⟨_, rfl⟩
              rw [hk'] at CJ P2 HQ2
              have M1 := guess_mono HR.out HF.out HQ2.out HQ.out
              have M2 := guess_mono HR.out HF.out HQ.out HQ2.out
              rw [HG.out.2] at M1 M2
              obtain ⟨gv', hg'⟩ : ∃ gv', guess ⟨first, sl.toNat, ic.toNat, fr, up⟩ k' = gv' := ⟨_, rfl⟩
              rw [hg'] at P2 M1 M2
              have HM := Lib.hid (And.intro M1 M2)
              clear M1 M2 hg' hk' hlj h40
              obtain ⟨_, c0, c1, c2, c3, c4⟩ := K.out.all
              have ck := CJ.out _ K.out.bel
              go_upto_region 19 with fail
              go_region_held3 (fun w' => SB w w2.heap.size ⟨first, sl.toNat, ic.toNat, fr, up⟩ w' ∧ w'.cell? ⟨w2.heap.size, 0, none⟩ = some (.int .u64 first) ∧ w'.cell? ⟨w2.heap.size, 1, none⟩ = some (.float .f64 sl.toNat) ∧ w'.cell? ⟨w2.heap.size, 2, none⟩ = some (.float .f64 ic.toNat) ∧ w'.cell? ⟨w2.heap.size, 3, none⟩ = some (.int .i64 fr) ∧ w'.cell? ⟨w2.heap.size, 4, none⟩ = some (.int .i64 up) ∧ w'.cell? ⟨b, o + j, none⟩ = some (.int .u64 k'))
                (first | exact And.intro K.out.drew.all.1 (and_last K.out.drew.all.2 (CJ.out _ K.out.drew.bel)) | exact And.intro HB2.out.all.1 (and_last HB2.out.all.2 (CJ.out _ HB2.out.bel)) | go_keep)
                (first | (go_at_call 19; (with_reducible refine (P2 _).mono ?_); rintro e6 w6 ⟨rfl, b6⟩; have HB2 := Lib.hid ((‹SB _ _ _ _ ∧ _›).1.below b6)))
              clear c0 c1 c2 c3 c4 ck K P2
              have cj := CJ.out _ HB2.out.bel
              have ci := CC.out _ HB2.out.bel
              rcases Int.lt_trichotomy k' k with h | h | h
              · have q1 : k' ≤ k := by omega
                have q2 : ¬ k ≤ k' := by omega
                have q3 : ¬ gv < gv' := by have := HM.out.1 q1; omega
                clear h
                go_upto_region 20 with fail
                go_quiet (fail)
                go_wp2_with fail
                go_roundw
                case rel => exact ⟨j + 1, by omega, by omega, by go_num, Lib.hid ⟨HB2.out.blk.drewN _, drewN_below HB2.out.bel _⟩⟩
                case measure => simp [intOf]; omega
              · have q1 : k' ≤ k := by omega
                have q2 : k ≤ k' := by omega
                have q3 : ¬ gv < gv' := by have := HM.out.1 q1; omega
                have q4 : ¬ gv' < gv := by have := HM.out.2 q2; omega
                clear h
                go_upto_region 20 with fail
                go_quiet (fail)
                go_wp2_with fail
                go_roundw
                case rel => exact ⟨j + 1, by omega, by omega, by go_num, Lib.hid ⟨HB2.out.blk.drewN _, drewN_below HB2.out.bel _⟩⟩
                case measure => simp [intOf]; omega
              · have q1 : ¬ k' ≤ k := by omega
                have q2 : k ≤ k' := by omega
                have q4 : ¬ gv' < gv := by have := HM.out.2 q2; omega
                clear h
                go_upto_region 20 with fail
                go_quiet (fail)
                go_wp2_with fail
                go_roundw
                case rel => exact ⟨j + 1, by omega, by omega, by go_num, Lib.hid ⟨HB2.out.blk.drewN _, drewN_below HB2.out.bel _⟩⟩
                case measure => simp [intOf]; omega
            · have g4 : ¬ (j : Int) < 40 := by omega
              go_wp2_with fail
              go_roundw
              case rel => exact ⟨i + 1, by omega, by go_num, K⟩
              case measure => simp [intOf]; omega
          · have g3 : ¬ (j : Int) < (i : Int) := by omega
            go_wp2_with fail
            go_roundw
            case rel => exact ⟨i + 1, by omega, by go_num, K⟩
            case measure => simp [intOf]; omega
      · have i1 : ¬ (i : Int) < (P.length : Int) := by omega
        have P1 := O1.out _ (HA.out.below K.out.bel)
        obtain ⟨r, hr⟩ : ∃ r, offI ⟨first, sl.toNat, ic.toNat, fr, up⟩ L = r := ⟨_, rfl⟩
        rw [hr] at P1 O2
        obtain ⟨r1, r2⟩ := r
        simp only [] at P1 O2
        have HO := Lib.hid hr
        clear hr O1 hlt hi
        obtain ⟨_, c0, c1, c2, c3, c4⟩ := K.out.all
        go_wp2_with fail
        refine P1.mono ?_
        rintro e w5 ⟨rfl, b5⟩
        have K5 := Lib.hid (K.out.below b5)
        have P2 := O2.out _ (HA.out.below K5.out.bel)
        clear c0 c1 c2 c3 c4 P1 b5 K O2 i1
        obtain ⟨_, c0, c1, c2, c3, c4⟩ := K5.out.all
        go_wp2_with fail
        refine P2.mono ?_
        rintro e w6 ⟨rfl, b6⟩
        have K6 := Lib.hid (K5.out.below b6)
        clear c0 c1 c2 c3 c4 P2 b6 K5
        by_cases hz : r2 = 0
        · subst hz
          have HN : Hid ((L.length : Int) = up - fr ∧ L.Pairwise (· < ·) ∧ worst ⟨first, sl.toNat, ic.toNat, fr, up⟩ L L.length = r1) := Lib.hid (by
            have h := HO.out
            unfold offI at h
            rw [if_neg (by rw [chk_right.2 HR.out]; simp)] at h
            split at h
            · simp at h
            · rename_i hh
              refine ⟨?_, ?_, (Prod.mk.inj h).1⟩
              · exact Classical.byContradiction fun x => hh (.inl x)
              · exact Classical.byContradiction fun x => hh (.inr (.inr x)))
          have HW : Hid (0 ≤ r1 ∧ r1 ≤ 4294967296) := Lib.hid (by
            have := worst_bounds HR.out L L.length (by rw [HN.out.1]; exact Int.le_refl _)
            rw [HN.out.2.2] at this; exact this)
          have v9 : IntKind.i64.wrap (r1 + 1) = r1 + 1 := IntWalk.i64_in _ (by have := HW.out; omega)
          go_wp2_with fail
          go_loopw [20] (fun x wr => ∃ i : Nat, i ≤ P.length ∧ x = .int .i64 i ∧ Hid (SB w w2.heap.size ⟨first, sl.toNat, ic.toNat, fr, up⟩ wr)) (fun x _ => P.length - (intOf x).toNat)
          case atStart => exact ⟨0, Nat.zero_le _, rfl, K6⟩
          case round =>
            obtain ⟨i, hi, rfl, K⟩ := hrel
            clear K6
            by_cases hlt : i < P.length
            · have i0 : (0 : Int) ≤ (i : Int) := by omega
              have i1 : (i : Int) < (P.length : Int) := by omega
              obtain ⟨b, o, rfl, hb, hc0, hc⟩ := HA2.out.first (by omega)
              have CC : Hid (∀ w', Below w.heap.size w w' → w'.cell? ⟨b, o + i, none⟩ = some (.int .u64 (P.getD i 0))) := Lib.hid fun w' k => (k.cell (p := ⟨b, _, none⟩) hb).trans (hc i hlt)
              have HQ := Lib.hid (HP.out.getD hlt)
              have P1 := GS.out (P.getD i 0) HQ.out
              have OB := off_beside HR.out HF.out HU.out HN.out.2.1 HN.out.1 HW.out.1 (Int.le_of_eq HN.out.2.2) HQ.out
              obtain ⟨v1, v2, v3⟩ := rank_facts HR.out HN.out.1 (P.getD i 0)
              have BB : Hid (∀ w', ArgU w' A L → _) := Lib.hid (BL.out (P.getD i 0))
              simp only [] at OB v1 v2 v3
              obtain ⟨k, hk⟩ : ∃ k, P.getD i 0 = k := ⟨_, rfl⟩
              rw [hk] at CC P1 OB v1 v2 v3 BB
              obtain ⟨gv, hg⟩ : ∃ gv, guess ⟨first, sl.toNat, ic.toNat, fr, up⟩ k = gv := ⟨_, rfl⟩
              rw [hg] at P1 OB v2 v3
              obtain ⟨m, hm'⟩ : ∃ m : Nat, belowN L k L.length = m := ⟨_, rfl⟩
              rw [hm'] at OB v1 v2 v3 BB
              obtain ⟨t, ht⟩ : ∃ t, fr + (m : Int) = t := ⟨_, rfl⟩
              rw [ht] at OB v1 v2 v3
              obtain ⟨d, hd⟩ : ∃ d, gv - t = d := ⟨_, rfl⟩
              rw [hd] at OB v2 v3
              have g1 : ¬ r1 + 1 < d := by omega
              have g2 : ¬ r1 + 1 < -d := by omega
              have v9' : wrap64 (r1 + 1) = r1 + 1 := by have := HW.out; unfold wrap64; omega
              clear hb hc0 hc hk hg hm' OB
              obtain ⟨_, c0, c1, c2, c3, c4⟩ := K.out.all
              have ck := CC.out _ K.out.bel
              go_upto_region 31 with fail
              go_region_held3 (fun w' => SB w w2.heap.size ⟨first, sl.toNat, ic.toNat, fr, up⟩ w' ∧ w'.cell? ⟨w2.heap.size, 0, none⟩ = some (.int .u64 first) ∧ w'.cell? ⟨w2.heap.size, 1, none⟩ = some (.float .f64 sl.toNat) ∧ w'.cell? ⟨w2.heap.size, 2, none⟩ = some (.float .f64 ic.toNat) ∧ w'.cell? ⟨w2.heap.size, 3, none⟩ = some (.int .i64 fr) ∧ w'.cell? ⟨w2.heap.size, 4, none⟩ = some (.int .i64 up) ∧ w'.cell? ⟨b, o + i, none⟩ = some (.int .u64 k))
                (first | exact And.intro K.out.drew.all.1 (and_last K.out.drew.all.2 (CC.out _ K.out.drew.bel)) | exact And.intro HB.out.all.1 (and_last HB.out.all.2 (CC.out _ HB.out.bel)) | go_keep)
                (first | (go_at_call 19; (with_reducible refine (P1 _).mono ?_); rintro e7 w7 ⟨rfl, b7⟩; have HB := Lib.hid ((‹SB _ _ _ _ ∧ _›).1.below b7)) | (go_at_call 24; (with_reducible refine (BB.out _ (HA.out.below (‹SB _ _ _ _ ∧ _›).1.bel)).mono ?_); rintro e8 w8 ⟨rfl, rfl⟩))
              clear c0 c1 c2 c3 c4 ck K P1
              obtain ⟨_, c0, c1, c2, c3, c4⟩ := HB.out.all
              have ck := CC.out _ HB.out.bel
              by_cases hf : first ≤ k
              · go_upto_region 32 with fail
                go_quiet (fail)
                go_wp2_with fail
                go_roundw
                case rel => exact ⟨i + 1, by omega, by go_num, Lib.hid ⟨HB.out.blk.drewN _, drewN_below HB.out.bel _⟩⟩
                case measure => simp [intOf]; omega
              · go_upto_region 32 with fail
                go_quiet (fail)
                go_wp2_with fail
                go_roundw
                case rel => exact ⟨i + 1, by omega, by go_num, Lib.hid ⟨HB.out.blk.drewN _, drewN_below HB.out.bel _⟩⟩
                case measure => simp [intOf]; omega
            · have i1 : ¬ (i : Int) < (P.length : Int) := by omega
              go_wp2_with fail
              go_ret
              exact ⟨rfl, K.out.bel⟩
        · have hz' : (r2 == 0) = false := by simpa using hz
          have HZ : Hid (r1 = 0) := Lib.hid (by
            have h := HO.out
            unfold offI at h
            split at h
            · exact ((Prod.mk.inj h).1).symm
            · split at h
              · exact ((Prod.mk.inj h).1).symm
              · exact absurd (Prod.mk.inj h).2.symm hz)
          have hr0 := HZ.out
          subst hr0
          clear hz
          go_wp2_with fail
          go_ret
          exact ⟨rfl, K6.out.bel⟩
  · have hk' : (chk ⟨first, sl.toNat, ic.toNat, fr, up⟩ == 0) = false := by simpa using hk
    rw [guess_zero hk] at G5
    generalize chk ⟨first, sl.toNat, ic.toNat, fr, up⟩ = k at *
    clear hk
    go_enter Try.func8, Try.ntmps8
    go_wp2_with fail
    refine (SH _).mono ?_
    rintro e w1 ⟨rfl, b1⟩
    have T1 := Lib.hid (T0.out.below b1)
    obtain ⟨c0, c1, c2, c3, c4⟩ := T1.out.all
    clear b1 T0 SH
    go_wp2_with fail
    refine (OF _).mono ?_
    rintro e w2 ⟨rfl, b2⟩
    have K2 := Lib.hid (SB.late (T1.out.below b2).bel ⟨first, sl.toNat, ic.toNat, fr, up⟩)
    obtain ⟨_, d0, d1, d2, d3, d4⟩ := K2.out.all
    clear b2 T1 OF c0 c1 c2 c3 c4
    go_wp2_with fail
    refine (C1 _).mono ?_
    rintro e w3 ⟨rfl, b3⟩
    have K3 := Lib.hid (K2.out.below b3)
    clear d0 d1 d2 d3 d4 b3 K2 C1
    obtain ⟨_, d0, d1, d2, d3, d4⟩ := K3.out.all
    go_wp2_with fail
    refine (C2 _).mono ?_
    rintro e w4 ⟨rfl, b4⟩
    have K4 := Lib.hid (K3.out.below b4)
    clear d0 d1 d2 d3 d4 b4 K3 C2
    obtain ⟨_, d0, d1, d2, d3, d4⟩ := K4.out.all
    go_wp2_with fail
    refine (G5 _).mono ?_
    rintro e w5 ⟨rfl, b5⟩
    have K5 := Lib.hid (K4.out.below b5)
    clear d0 d1 d2 d3 d4 b5 K4
    go_wp2_with fail
    go_ret
    exact ⟨rfl, K5.out.bel⟩
end Go.Proofs.Ytakegkdmpcakdaa
