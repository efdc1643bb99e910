/-
  The law ModelBound: its walk.
-/
import Derived.Test.YtakegkdmpcakdaaQMdL3
import Derived.Test.YtakegkdmpcakdaaQMdBoundP
import Derived.BigQuiet
namespace Go.Proofs.Ytakegkdmpcakdaa
open Go.RowKit
set_option linter.unusedVariables false
set_option linter.unusedSimpArgs false
attribute [local go_sem high] binOp_lss64 binOp_gtr64 binOp_geq64 binOp_leq64 binOp_eql64 binOp_neq64 f64bits frombits run_store_float

set_option maxHeartbeats 8000000 in
set_option maxRecDepth 100000 in
theorem modelBound_walk (A : Option Addr) (c : Nat) (L : List Int) (hL : U64s L) (hn : L.length ≤ 17592186044416) (at_ : Int × Int) (hat : i64ok at_.1 ∧ i64ok at_.2) (A2 : Option Addr) (c2 : Nat) (P : List Int) (hP : U64s P) (hm : P.length ≤ 17592186044416) (w : World) (hA : ArgU w A L) (hA2 : ArgU w A2 P) :
    Calls Try.prog 7 #[.slice A L.length c, .agg #[.int .i64 at_.1, .int .i64 at_.2], .slice A2 P.length c2] w fun e w' => e = .returned (.bool true) ∧ Below w.heap.size w w' := by
  obtain ⟨eps, fr⟩ := at_
  simp only [] at hat ⊢
  obtain ⟨heps, hfr⟩ := hat
  have SH := fun w => shown7 w
  have HA := Lib.hid hA
  have HU := Lib.hid hL
  have HA2 := Lib.hid hA2
  have HP := Lib.hid hP
  have O1 : Hid (∀ (w' : World), ArgU w' A L → Calls Try.prog 15 #[.slice A L.length c, .int .i64 eps, .int .i64 fr] w' fun e w2 => e = .returned (.tuple #[(ofS L eps fr).1.v, .int .i64 (ofS L eps fr).2]) ∧ Below w'.heap.size w' w2) := Lib.hid fun w' h => ofS_post hfr HU.out hn h rfl
  have O2 : Hid (∀ (w' : World), ArgU w' A L → Calls Try.prog 23 #[.slice A L.length c, .int .i64 eps] w' fun e w2 => e = .returned (.tuple #[.agg #[.int .u64 (lineOf L eps).1.1, .int .u64 (lineOf L eps).1.2.1, .int .i64 (lineOf L eps).1.2.2], .int .i64 (lineOf L eps).2]) ∧ Below w'.heap.size w' w2) := Lib.hid fun w' h => by
    have := refOf_any A c L eps HU.out hn w' h
    unfold OfPost at this
    exact this
  have v0 : wrap64 (4294967296 - (L.length : Int)) = 4294967296 - (L.length : Int) := by unfold wrap64; omega
  clear hA hL hA2 hP heps hfr
  obtain ⟨⟨⟨lp, lq, lb⟩, le⟩, hl⟩ : ∃ r, lineOf L eps = r := ⟨_, rfl⟩
  have HL := Lib.hid hl
  rw [hl] at O2
  simp only [] at O2
  clear hl
  by_cases he : le = 0
  · subst he
    by_cases hb : fr < 0 ∨ 4294967296 - (L.length : Int) < fr
    · have ho : ofS L eps fr = (⟨0, 0, 0, 0, 0⟩, 1) := by unfold ofS; rw [HL.out]; simp only []; rw [if_neg (by simp), if_pos hb]
      rw [ho] at O1
      unfold Sg.v at O1
      simp only [] at O1
      clear ho
      by_cases h1 : fr < 0
      · have h1' : ¬ 0 ≤ fr := by omega
        clear hb
        go_enter Try.func7, Try.ntmps7
        go_wp2_with fail
        go_big_region
        go_wp2_with fail
        refine (SH _).mono ?_
        rintro e w1 ⟨rfl, b1⟩
        have H1 := Lib.hid (below_next (below_new (Below.refl _ _) _).drew b1)
        have P1 := O1.out _ (HA.out.below H1.out)
        clear b1 SH O1
        go_wp2_with fail
        refine P1.mono ?_
        rintro e w2 ⟨rfl, b2⟩
        have K2 := Lib.hid (SB.late (below_next H1.out b2) ⟨0, 0, 0, 0, 0⟩)
        have P2 := O2.out _ (HA.out.below K2.out.bel)
        clear b2 H1 P1 O2
        go_wp2_with fail
        refine P2.mono ?_
        rintro e w3 ⟨rfl, b3⟩
        have K3 := Lib.hid ((K2.out.below b3).alloc (.cells #[.int .u64 lp, .int .u64 lq, .int .i64 lb] 46))
        obtain ⟨_, c0, c1, c2, c3, c4⟩ := K3.out.all
        clear b3 K2 P2
        go_wp2_with fail
        go_ret
        exact ⟨rfl, K3.out.bel⟩
      · have h1' : 0 ≤ fr := by omega
        have h2 : ¬ fr ≤ 4294967296 - (L.length : Int) := by omega
        clear hb
        go_enter Try.func7, Try.ntmps7
        go_wp2_with fail
        go_big_region
        go_wp2_with fail
        refine (SH _).mono ?_
        rintro e w1 ⟨rfl, b1⟩
        have H1 := Lib.hid (below_next (below_new (Below.refl _ _) _).drew b1)
        have P1 := O1.out _ (HA.out.below H1.out)
        clear b1 SH O1
        go_wp2_with fail
        refine P1.mono ?_
        rintro e w2 ⟨rfl, b2⟩
        have K2 := Lib.hid (SB.late (below_next H1.out b2) ⟨0, 0, 0, 0, 0⟩)
        have P2 := O2.out _ (HA.out.below K2.out.bel)
        clear b2 H1 P1 O2
        go_wp2_with fail
        refine P2.mono ?_
        rintro e w3 ⟨rfl, b3⟩
        have K3 := Lib.hid ((K2.out.below b3).alloc (.cells #[.int .u64 lp, .int .u64 lq, .int .i64 lb] 46))
        obtain ⟨_, c0, c1, c2, c3, c4⟩ := K3.out.all
        clear b3 K2 P2
        go_wp2_with fail
        go_ret
        exact ⟨rfl, K3.out.bel⟩
    · obtain ⟨s, W, ho, hR, hS, hs1, hs2, hs3, hO, hW0, hW, hWW, hup, hl0⟩ := of_bound (eps := eps) (fr := fr) (by rw [HL.out]) HU.out hn (by omega) (by omega)
      have heps : 2 ≤ eps ∧ eps ≤ 64 := by
        obtain ⟨F, hF⟩ := lineOf_is (L := L) (eps := eps) (by rw [HL.out])
        exact ⟨hF.g1, hF.g2⟩
      obtain ⟨k0, sl, ic, fr1, up⟩ := s
      simp only [] at hs1 hs2 hs3
      subst hs2
      rw [ho] at O1
      have CK := check_any _ hS
      rw [chk_right.2 hR] at CK
      have GS : Hid (∀ q, u64ok q → ∀ w, Calls Try.prog 19 #[Sg.v ⟨k0, sl, ic, fr1, up⟩, .int .u64 q] w fun e w' => e = .returned (.int .i64 (guess ⟨k0, sl, ic, fr1, up⟩ q)) ∧ Below w.heap.size w w') := Lib.hid fun q hq w => guess_any _ hS q hq w
      have OF : Hid (∀ (w' : World), ArgU w' A L → Calls Try.prog 21 #[Sg.v ⟨k0, sl, ic, fr1, up⟩, .slice A L.length c] w' fun e w2 => e = .returned (.tuple #[.int .i64 W, .int .i64 0]) ∧ Below w'.heap.size w' w2) := Lib.hid fun w' h => by
        have := off_any _ hS A c L HU.out hn w' h
        rw [hO] at this
        exact this
      have BL : Hid (∀ q w', ArgU w' A L → Calls Try.prog 24 #[.slice A L.length c, .int .u64 q] w' fun e w2 => e = .returned (.int .i64 (belowN L q L.length)) ∧ w' = w2) := Lib.hid fun q w' h => belowN_any A c L q hn w' h
      unfold Sg.v at O1 CK GS OF
      simp only [] at O1 CK GS OF
      have HR := Lib.hid hR
      have HSo := Lib.hid hS
      have HX := Lib.hid (And.intro hW0 (And.intro hWW (And.intro hup (And.intro hs3 hs1))))
      have h1 : 0 ≤ fr1 := by omega
      have h2 : fr1 ≤ 4294967296 - (L.length : Int) := by omega
      have g1 : ¬ eps < W := by omega
      have v1 : IntKind.i64.wrap (fr1 + (L.length : Int)) = up := by rw [hs3]; exact IntWalk.i64_in _ (by omega)
      have v1' : wrap64 (fr1 + (L.length : Int)) = up := by rw [hs3]; unfold wrap64; omega
      have v2 : IntKind.i64.wrap (eps + 1) = eps + 1 := IntWalk.i64_in _ (by omega)
      have v2' : wrap64 (eps + 1) = eps + 1 := by unfold wrap64; omega
      have i00 : (0 : Int) < (L.length : Int) := by omega
      have HE := Lib.hid heps
      have HW := Lib.hid hW
      obtain ⟨b, o, rfl, hbk, hc0, hc⟩ := HA.out.first hl0
      rw [← hs1] at hc0
      have C0 : Hid (∀ w', Below w.heap.size w w' → w'.cell? ⟨b, o, none⟩ = some (.int .u64 k0)) := Lib.hid fun w' k => (k.cell (p := ⟨b, _, none⟩) hbk).trans hc0
      have CI : Hid (∀ i, i < L.length → ∀ w', Below w.heap.size w w' → w'.cell? ⟨b, o + i, none⟩ = some (.int .u64 (L.getD i 0))) := Lib.hid fun i hi w' k => (k.cell (p := ⟨b, _, none⟩) hbk).trans (hc i hi)
      clear hR hS hs1 hs3 hO hW0 hW hWW hup ho heps hb hbk hc0 hc
      go_enter Try.func7, Try.ntmps7
      go_wp2_with fail
      go_big_region
      go_wp2_with fail
      refine (SH _).mono ?_
      rintro e w1 ⟨rfl, b1⟩
      have H1 := Lib.hid (below_next (below_new (Below.refl _ _) _).drew b1)
      have P1 := O1.out _ (HA.out.below H1.out)
      clear b1 SH O1
      go_wp2_with fail
      refine P1.mono ?_
      rintro e w2 ⟨rfl, b2⟩
      have K2 := Lib.hid (SB.late (below_next H1.out b2) ⟨k0, sl, ic, fr1, up⟩)
      have P2 := O2.out _ (HA.out.below K2.out.bel)
      clear b2 H1 P1 O2
      go_wp2_with fail
      refine P2.mono ?_
      rintro e w3 ⟨rfl, b3⟩
      have K3 := Lib.hid ((K2.out.below b3).alloc (.cells #[.int .u64 lp, .int .u64 lq, .int .i64 lb] 46))
      obtain ⟨_, c0, c1, c2, c3, c4⟩ := K3.out.all
      clear b3 K2 P2
      go_wp2_with fail
      refine (CK _).mono ?_
      rintro e w4 ⟨rfl, b4⟩
      have K4 := Lib.hid (K3.out.below b4)
      have P4 := OF.out _ (HA.out.below K4.out.bel)
      clear c0 c1 c2 c3 c4 b4 K3 CK OF
      obtain ⟨_, c0, c1, c2, c3, c4⟩ := K4.out.all
      go_wp2_with fail
      refine P4.mono ?_
      rintro e w5 ⟨rfl, b5⟩
      have K5 := Lib.hid (K4.out.below b5)
      clear c0 c1 c2 c3 c4 b5 K4 P4
      obtain ⟨_, c0, c1, c2, c3, c4⟩ := K5.out.all
      have ck := C0.out _ K5.out.bel
      go_upto_region 11 with fail
      go_quiet (fail)
      clear c0 c1 c2 c3 c4 ck
      go_wp2_with fail
      go_loopw [17] (fun x wr => ∃ i : Nat, i ≤ L.length ∧ x = .int .i64 i ∧ Hid (SB w w2.heap.size ⟨k0, sl, ic, fr1, up⟩ wr)) (fun x _ => L.length - (intOf x).toNat)
      case atStart => exact ⟨0, Nat.zero_le _, rfl, Lib.hid ⟨K5.out.blk.drewN _, drewN_below K5.out.bel _⟩⟩
      case round =>
        obtain ⟨i, hi, rfl, K⟩ := hrel
        clear K5
        by_cases hlt : i < L.length
        · have i0 : (0 : Int) ≤ (i : Int) := by omega
          have i1 : (i : Int) < (L.length : Int) := by omega
          have CC := Lib.hid (CI.out i hlt)
          have P1 := GS.out (L.getD i 0) (HU.out.getD hlt)
          have GI := guess_in HR.out (L.getD i 0)
          have WO := worst_of (Int.le_of_eq HX.out.2.1) i hlt
          simp only [] at GI WO
          obtain ⟨k, hk⟩ : ∃ k, L.getD i 0 = k := ⟨_, rfl⟩
          rw [hk] at CC P1 GI WO
          obtain ⟨gv, hg⟩ : ∃ gv, guess ⟨k0, sl, ic, fr1, up⟩ k = gv := ⟨_, rfl⟩
          rw [hg] at P1 GI WO
          have x1 := HX.out.2.2.2.1
          have x2 := HW.out
          have x3 := HE.out
          have v3 : IntKind.i64.wrap (fr1 + (i : Int)) = fr1 + i := IntWalk.i64_in _ (by omega)
          have v4 : IntKind.i64.wrap (gv - (fr1 + (i : Int))) = gv - (fr1 + i) := IntWalk.i64_in _ (by omega)
          obtain ⟨d, hd⟩ : ∃ d, gv - (fr1 + (i : Int)) = d := ⟨_, rfl⟩
          rw [hd] at v4 WO
          have v5 : wrap64 (-d) = -d := by unfold wrap64; omega
          have g2 : ¬ eps < d := by omega
          have g3 : ¬ eps < -d := by omega
          have WF : Hid (wrap64 (gv - wrap64 (fr1 + (i : Int))) = d) := Lib.hid (by
            have : wrap64 (fr1 + (i : Int)) = fr1 + i := by unfold wrap64; omega
            rw [this, hd]; unfold wrap64; omega)
          have v6 : wrap64 (fr1 + (i : Int)) = fr1 + i := by unfold wrap64; omega
          have v7 : wrap64 (gv - (fr1 + (i : Int))) = d := by rw [hd]; unfold wrap64; omega
          clear hk hg WO GI hd x1 x2 x3
          obtain ⟨_, c0, c1, c2, c3, c4⟩ := K.out.all
          have ck := CC.out _ K.out.bel

          go_upto_region 16 with fail
          go_region_held3 (fun w' => SB w w2.heap.size ⟨k0, sl, ic, fr1, up⟩ w' ∧ w'.cell? ⟨w2.heap.size, 0, none⟩ = some (.int .u64 k0) ∧ w'.cell? ⟨w2.heap.size, 1, none⟩ = some (.float .f64 sl) ∧ w'.cell? ⟨w2.heap.size, 2, none⟩ = some (.float .f64 ic) ∧ w'.cell? ⟨w2.heap.size, 3, none⟩ = some (.int .i64 fr1) ∧ w'.cell? ⟨w2.heap.size, 4, none⟩ = some (.int .i64 up) ∧ w'.cell? ⟨b, o + i, none⟩ = some (.int .u64 k))
            (first | exact And.intro K.out.drew.all.1 (and_last K.out.drew.all.2 (CC.out _ K.out.drew.bel)) | exact And.intro HB.out.all.1 (and_last HB.out.all.2 (CC.out _ HB.out.bel)) | go_keep)
            (first | (go_at_call 19; (with_reducible refine (P1 _).mono ?_); rintro e6 w6 ⟨rfl, b6⟩; have HB := Lib.hid ((‹SB _ _ _ _ ∧ _›).1.below b6)))
          clear c0 c1 c2 c3 c4 ck P1
          go_wp2_with fail
          go_roundw
          case rel => exact ⟨i + 1, by omega, by go_num, HB⟩
          case measure => simp [intOf]; omega
        · have i1 : ¬ (i : Int) < (L.length : Int) := by omega
          go_wp2_with fail
          go_loopw [19] (fun x wr => ∃ i : Nat, i ≤ P.length ∧ x = .int .i64 i ∧ Hid (SB w w2.heap.size ⟨k0, sl, ic, fr1, up⟩ wr)) (fun x _ => P.length - (intOf x).toNat)
          case atStart => exact ⟨0, Nat.zero_le _, rfl, K⟩
          case round =>
            clear K hlt hi i1
            obtain ⟨i, hi, rfl, K⟩ := hrel
            by_cases hlt : i < P.length
            · have i0 : (0 : Int) ≤ (i : Int) := by omega
              have i1 : (i : Int) < (P.length : Int) := by omega
              obtain ⟨b', o', rfl, hb, hc0, hc⟩ := HA2.out.first (by omega)
              have CC : Hid (∀ w', Below w.heap.size w w' → w'.cell? ⟨b', o' + i, none⟩ = some (.int .u64 (P.getD i 0))) := Lib.hid fun w' k => (k.cell (p := ⟨b', _, none⟩) hb).trans (hc i hlt)
              have HQ := Lib.hid (HP.out.getD hlt)
              have P1 := GS.out (P.getD i 0) HQ.out
              have hlen : (L.length : Int) = up - fr1 := by have := HX.out.2.2.2.1; omega
              have OB := off_beside HR.out HSo.out.hf HU.out HX.out.2.2.1 hlen HX.out.1 (Int.le_of_eq HX.out.2.1) HQ.out
              obtain ⟨v3, v4, v5⟩ := rank_facts HR.out hlen (P.getD i 0)
              have BB : Hid (∀ w', ArgU w' _ L → _) := Lib.hid (BL.out (P.getD i 0))
              simp only [] at OB v3 v4 v5
              obtain ⟨k, hk⟩ : ∃ k, P.getD i 0 = k := ⟨_, rfl⟩
              rw [hk] at CC P1 OB v3 v4 v5 BB
              obtain ⟨gv, hg⟩ : ∃ gv, guess ⟨k0, sl, ic, fr1, up⟩ k = gv := ⟨_, rfl⟩
              rw [hg] at P1 OB v4 v5
              obtain ⟨m, hm'⟩ : ∃ m : Nat, belowN L k L.length = m := ⟨_, rfl⟩
              rw [hm'] at OB v3 v4 v5 BB
              obtain ⟨t, ht⟩ : ∃ t, fr1 + (m : Int) = t := ⟨_, rfl⟩
              rw [ht] at OB v3 v4 v5
              obtain ⟨d, hd⟩ : ∃ d, gv - t = d := ⟨_, rfl⟩
              rw [hd] at OB v4 v5
              have x2 := HW.out
              have g2 : ¬ eps + 1 < d := by omega
              have g3 : ¬ eps + 1 < -d := by omega
              have v6 : wrap64 (-d) = -d := by rw [IntKind.wrap_i64] at v5; unfold wrap64; omega
              clear hb hc0 hc hk hg hm' OB x2 hlen
              obtain ⟨_, c0, c1, c2, c3, c4⟩ := K.out.all
              have ck := CC.out _ K.out.bel

              go_upto_region 22 with fail
              go_region_held3 (fun w' => SB w w2.heap.size ⟨k0, sl, ic, fr1, up⟩ w' ∧ w'.cell? ⟨w2.heap.size, 0, none⟩ = some (.int .u64 k0) ∧ w'.cell? ⟨w2.heap.size, 1, none⟩ = some (.float .f64 sl) ∧ w'.cell? ⟨w2.heap.size, 2, none⟩ = some (.float .f64 ic) ∧ w'.cell? ⟨w2.heap.size, 3, none⟩ = some (.int .i64 fr1) ∧ w'.cell? ⟨w2.heap.size, 4, none⟩ = some (.int .i64 up) ∧ w'.cell? ⟨b', o' + i, none⟩ = some (.int .u64 k))
                (first | exact And.intro K.out.drew.all.1 (and_last K.out.drew.all.2 (CC.out _ K.out.drew.bel)) | exact And.intro HB.out.all.1 (and_last HB.out.all.2 (CC.out _ HB.out.bel)) | go_keep)
                (first | (go_at_call 19; (with_reducible refine (P1 _).mono ?_); rintro e7 w7 ⟨rfl, b7⟩; have HB := Lib.hid ((‹SB _ _ _ _ ∧ _›).1.below b7)) | (go_at_call 24; (with_reducible refine (BB.out _ (HA.out.below (‹SB _ _ _ _ ∧ _›).1.bel)).mono ?_); rintro e8 w8 ⟨rfl, rfl⟩))
              clear c0 c1 c2 c3 c4 ck P1
              go_wp2_with fail
              go_roundw
              case rel => exact ⟨i + 1, by omega, by go_num, HB⟩
              case measure => simp [intOf]; omega
            · have i1 : ¬ (i : Int) < (P.length : Int) := by omega
              go_wp2_with fail
              go_ret
              exact ⟨rfl, K.out.bel⟩
  · have ho : ofS L eps fr = (⟨0, 0, 0, 0, 0⟩, le) := by unfold ofS; rw [HL.out]; simp only []; rw [if_pos he]
    rw [ho] at O1
    unfold Sg.v at O1
    simp only [] at O1
    have hz : (le == 0) = false := by simpa using he
    clear ho he
    go_enter Try.func7, Try.ntmps7
    go_wp2_with fail
    go_big_region
    go_wp2_with fail
    refine (SH _).mono ?_
    rintro e w1 ⟨rfl, b1⟩
    have H1 := Lib.hid (below_next (below_new (Below.refl _ _) _).drew b1)
    have P1 := O1.out _ (HA.out.below H1.out)
    clear b1 SH O1
    go_wp2_with fail
    refine P1.mono ?_
    rintro e w2 ⟨rfl, b2⟩
    have K2 := Lib.hid (SB.late (below_next H1.out b2) ⟨0, 0, 0, 0, 0⟩)
    have P2 := O2.out _ (HA.out.below K2.out.bel)
    clear b2 H1 P1 O2
    go_wp2_with fail
    refine P2.mono ?_
    rintro e w3 ⟨rfl, b3⟩
    have K3 := Lib.hid ((K2.out.below b3).alloc (.cells #[.int .u64 lp, .int .u64 lq, .int .i64 lb] 46))
    obtain ⟨_, c0, c1, c2, c3, c4⟩ := K3.out.all
    clear b3 K2 P2
    go_wp2_with fail
    go_ret
    exact ⟨rfl, K3.out.bel⟩
end Go.Proofs.Ytakegkdmpcakdaa
