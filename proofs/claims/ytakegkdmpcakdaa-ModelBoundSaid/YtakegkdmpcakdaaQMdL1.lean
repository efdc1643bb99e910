/-
  The laws ModelChecks, ModelOf, ModelGuesses, ModelOff: their walks.
-/
import Derived.Test.YtakegkdmpcakdaaQG16
namespace Go.Proofs.Ytakegkdmpcakdaa
open Go.RowKit
set_option linter.unusedVariables false
set_option linter.unusedSimpArgs false
attribute [local go_sem high] binOp_lss64 binOp_gtr64 binOp_geq64 binOp_leq64 binOp_eql64 binOp_neq64 f64bits frombits run_store_float

/-- The told segment's block. -/
structure TB (w : World) (g : Nat) (s : Sb) (w' : World) : Prop where
  blk : Blk w' g 24 #[.int .u64 s.first, .int .u64 s.sl, .int .u64 s.ic, .int .i64 s.fr, .int .i64 s.up]
  bel : Below w.heap.size w w'
theorem TB.new (s : Sb) (w : World) : TB w w.heap.size s (w.alloc (.cells #[.int .u64 s.first, .int .u64 s.sl, .int .u64 s.ic, .int .i64 s.fr, .int .i64 s.up] 24)) := ⟨Blk.new _ _ _, below_new (Below.refl _ _) _⟩
theorem TB.below {w w' w2 : World} {g : Nat} {s : Sb} (h : TB w g s w') (b : Below w'.heap.size w' w2) : TB w g s w2 := ⟨h.blk.below b, below_next h.bel b⟩
theorem TB.all {w w' : World} {g : Nat} {a b c d e : Int} (h : TB w g ⟨a, b, c, d, e⟩ w') : w'.cell? ⟨g, 0, none⟩ = some (.int .u64 a) ∧ w'.cell? ⟨g, 1, none⟩ = some (.int .u64 b) ∧ w'.cell? ⟨g, 2, none⟩ = some (.int .u64 c) ∧ w'.cell? ⟨g, 3, none⟩ = some (.int .i64 d) ∧ w'.cell? ⟨g, 4, none⟩ = some (.int .i64 e) :=
  ⟨h.blk.cell 0, h.blk.cell 1, h.blk.cell 2, h.blk.cell 3, h.blk.cell 4⟩
theorem SB.alloc {w w' : World} {g : Nat} {s : Sg} (h : SB w g s w') (o : Obj) : SB w g s (w'.alloc o) := ⟨h.blk.alloc o, below_new h.bel o⟩
theorem SB.late {w w1 : World} (h : Below w.heap.size w w1) (s : Sg) : SB w w1.heap.size s (w1.alloc (.cells s.c 28)) := ⟨s.blk w1, below_new h _⟩

set_option maxHeartbeats 4000000 in
set_option maxRecDepth 10000 in
theorem modelChecks_walk (s : Sb) (hs : SbOk s) (w : World) :
    Calls Try.prog 3 #[s.v] w fun e w' => e = .returned (.bool true) ∧ Below w.heap.size w w' := by
  have T0 := Lib.hid (TB.new s w)
  have SH := fun w => shown7 w
  have OF := fun w => segOf_any s w
  have C1 := fun w => check_any s.sg hs.sg w
  have C2 := fun w => refCheck_any s.sg hs.sg w
  generalize chk s.sg = k at C1 C2
  clear hs
  obtain ⟨first, sl, ic, fr, up⟩ := s
  unfold Sb.sg at OF C1 C2
  unfold Sg.v at OF C1 C2
  unfold Sb.v at OF ⊢
  simp only [] at OF C1 C2 ⊢
  go_enter Try.func3, Try.ntmps3
  go_wp2_with fail
  refine (SH _).mono ?_
  rintro e w1 ⟨rfl, b1⟩
  have T1 := Lib.hid (T0.out.below b1)
  obtain ⟨c0, c1, c2, c3, c4⟩ := T1.out.all
  clear b1 T0 SH
  go_wp2_with fail
  refine (OF _).mono ?_
  rintro e w2 ⟨rfl, b2⟩
  have K2 := Lib.hid (SB.late (T1.out.below b2).bel ⟨first, sl.toNat, ic.toNat, fr, up⟩)
  obtain ⟨_, d0, d1, d2, d3, d4⟩ := K2.out.all
  clear b2 T1 OF c0 c1 c2 c3 c4
  go_wp2_with fail
  refine (C1 _).mono ?_
  rintro e w3 ⟨rfl, b3⟩
  have K3 := Lib.hid (K2.out.below b3)
  clear d0 d1 d2 d3 d4 b3 K2 C1
  obtain ⟨_, d0, d1, d2, d3, d4⟩ := K3.out.all
  go_wp2_with fail
  refine (C2 _).mono ?_
  rintro e w4 ⟨rfl, b4⟩
  have K4 := Lib.hid (K3.out.below b4)
  clear d0 d1 d2 d3 d4 b4 K3 C2
  go_wp2_with fail
  go_ret
  exact ⟨by simp, K4.out.bel⟩

theorem ofS_post {A : Option Addr} {c : Nat} {L : List Int} {eps fr : Int} {w : World} (hfr : i64ok fr) (hL : U64s L) (hn : L.length ≤ 17592186044416) (hA : ArgU w A L) {r : Sg × Int} (hr : ofS L eps fr = r) :
    Calls Try.prog 15 #[.slice A L.length c, .int .i64 eps, .int .i64 fr] w fun e w' => e = .returned (.tuple #[r.1.v, .int .i64 r.2]) ∧ Below w.heap.size w w' := by
  have := ofS_any A c L eps fr hfr hL hn w hA
  unfold OfP at this
  rwa [hr] at this
theorem refOfS_post {A : Option Addr} {c : Nat} {L : List Int} {eps fr : Int} {w : World} (hfr : i64ok fr) (hL : U64s L) (hn : L.length ≤ 17592186044416) (hA : ArgU w A L) {r : Sg × Int} (hr : ofS L eps fr = r) :
    Calls Try.prog 16 #[.slice A L.length c, .int .i64 eps, .int .i64 fr] w fun e w' => e = .returned (.tuple #[r.1.v, .int .i64 r.2]) ∧ Below w.heap.size w w' := by
  have := refOfS_any A c L eps fr hfr hL hn w hA
  unfold OfP at this
  rwa [hr] at this

set_option maxHeartbeats 4000000 in
set_option maxRecDepth 10000 in
theorem modelOf_walk (A : Option Addr) (c : Nat) (L : List Int) (hL : U64s L) (hn : L.length ≤ 17592186044416) (eps fr : Int) (hfr : i64ok fr) (w : World) (hA : ArgU w A L) :
    Calls Try.prog 4 #[.slice A L.length c, .int .i64 eps, .int .i64 fr] w fun e w' => e = .returned (.bool true) ∧ Below w.heap.size w w' := by
  have SH := shown7 w
  have HA := Lib.hid hA
  have HU := Lib.hid hL
  have HF := Lib.hid hfr
  obtain ⟨⟨⟨first, sl, ic, a, b⟩, k⟩, hr⟩ : ∃ r, ofS L eps fr = r := ⟨_, rfl⟩
  have HR := Lib.hid hr
  have SM := fun w => same_self ⟨first, sl, ic, a, b⟩ w
  unfold Sg.v at SM
  simp only [] at SM
  clear hA hL hr hfr
  go_enter Try.func4, Try.ntmps4
  go_wp2_with fail
  refine SH.mono ?_
  rintro e w1 ⟨rfl, b1⟩
  have H1 := Lib.hid b1
  have LT := lent_any A c L hn w1 (HA.out.below b1)
  clear SH b1
  go_wp2_with fail
  refine LT.mono ?_
  rintro e w2 ⟨g, rfl, hg, B2, b2⟩
  have H2 := Lib.hid (And.intro B2 (below_next H1.out b2))
  have O1 := ofS_post (c := L.length + 3) HF.out HU.out hn (lent_arg B2) HR.out
  unfold Sg.v at O1
  simp only [] at O1
  clear LT B2 b2 hg H1
  go_wp2_with fail
  refine O1.mono ?_
  rintro e w3 ⟨rfl, b3⟩
  have H3 := Lib.hid (And.intro ((H2.out.1.below b3).alloc (.cells #[.int .u64 first, .float .f64 sl, .float .f64 ic, .int .i64 a, .int .i64 b] 28)) (SB.late (below_next H2.out.2 b3) ⟨first, sl, ic, a, b⟩))
  have O2 := refOfS_post (c := c) HF.out HU.out hn (HA.out.below H3.out.2.bel) HR.out
  unfold Sg.v at O2
  simp only [] at O2
  clear O1 b3 H2
  go_wp2_with fail
  refine O2.mono ?_
  rintro e w4 ⟨rfl, b4⟩
  have k4 := below_new b4 (.cells #[.int .u64 first, .float .f64 sl, .float .f64 ic, .int .i64 a, .int .i64 b] 28)
  have H4 := Lib.hid (And.intro (H3.out.1.below k4) (And.intro (H3.out.2.below k4) (SB.late (H3.out.2.below b4).bel ⟨first, sl, ic, a, b⟩)))
  obtain ⟨_, c0, c1, c2, c3, c4⟩ := H4.out.2.1.all
  obtain ⟨_, d0, d1, d2, d3, d4⟩ := H4.out.2.2.all
  clear O2 b4 k4 H3
  go_wp2_with fail
  refine (SM _).mono ?_
  rintro e w5 ⟨rfl, b5⟩
  have H5 := Lib.hid (And.intro (H4.out.1.below b5) (H4.out.2.2.below b5).bel)
  have KP := kept_any A c g L hn _ (HA.out.below H5.out.2) H5.out.1
  clear c0 c1 c2 c3 c4 d0 d1 d2 d3 d4 b5 H4 SM
  go_wp2_with fail
  refine KP.mono ?_
  rintro e w6 ⟨rfl, b6⟩
  have H6 := Lib.hid (below_next H5.out.2 b6)
  clear KP b6 H5
  go_wp2_with fail
  go_ret
  exact ⟨by simp, H6.out⟩

set_option maxHeartbeats 4000000 in
set_option maxRecDepth 10000 in
theorem modelOff_walk (s : Sb) (hs : SbOk s) (A : Option Addr) (c : Nat) (L : List Int) (hL : U64s L) (hn : L.length ≤ 17592186044416) (w : World) (hA : ArgU w A L) :
    Calls Try.prog 6 #[s.v, .slice A L.length c] w fun e w' => e = .returned (.bool true) ∧ Below w.heap.size w w' := by
  have T0 := Lib.hid (TB.new s w)
  have SH := fun w => shown7 w
  have OF := fun w => segOf_any s w
  have HS := Lib.hid hs.sg
  have HA := Lib.hid hA
  have HU := Lib.hid hL
  have O1 : Hid (∀ (A' : Option Addr) (c' : Nat) (w' : World), ArgU w' A' L → Calls Try.prog 21 #[s.sg.v, .slice A' L.length c'] w' fun e w2 => e = .returned (.tuple #[.int .i64 (offI s.sg L).1, .int .i64 (offI s.sg L).2]) ∧ Below w'.heap.size w' w2) := Lib.hid fun A' c' w' h => off_any s.sg HS.out A' c' L HU.out hn w' h
  have O2 : Hid (∀ (A' : Option Addr) (c' : Nat) (w' : World), ArgU w' A' L → Calls Try.prog 22 #[s.sg.v, .slice A' L.length c'] w' fun e w2 => e = .returned (.tuple #[.int .i64 (offI s.sg L).1, .int .i64 (offI s.sg L).2]) ∧ Below w'.heap.size w' w2) := Lib.hid fun A' c' w' h => refOff_any s.sg HS.out A' c' L HU.out hn w' h
  obtain ⟨r, hr⟩ : ∃ r, offI s.sg L = r := ⟨_, rfl⟩
  rw [hr] at O1 O2
  obtain ⟨r1, r2⟩ := r
  clear hs hr HS hA hL
  obtain ⟨first, sl, ic, fr, up⟩ := s
  unfold Sb.sg at OF O1 O2
  unfold Sg.v at OF O1 O2
  unfold Sb.v at OF ⊢
  simp only [] at OF O1 O2 ⊢
  go_enter Try.func6, Try.ntmps6
  go_wp2_with fail
  refine (SH _).mono ?_
  rintro e w1 ⟨rfl, b1⟩
  have T1 := Lib.hid (T0.out.below b1)
  obtain ⟨c0, c1, c2, c3, c4⟩ := T1.out.all
  clear b1 T0 SH
  go_wp2_with fail
  refine (OF _).mono ?_
  rintro e w2 ⟨rfl, b2⟩
  have K2 := Lib.hid (SB.late (T1.out.below b2).bel ⟨first, sl.toNat, ic.toNat, fr, up⟩)
  have LT := lent_any A c L hn _ (HA.out.below K2.out.bel)
  clear b2 T1 OF c0 c1 c2 c3 c4
  go_wp2_with fail
  refine LT.mono ?_
  rintro e w3 ⟨g, rfl, hg, B3, b3⟩
  have K3 := Lib.hid (And.intro B3 (K2.out.below b3))
  obtain ⟨_, d0, d1, d2, d3, d4⟩ := K3.out.2.all
  have P1 := O1.out (some ⟨g, 0, none⟩) (L.length + 3) _ (lent_arg B3)
  clear LT B3 b3 hg K2 O1
  go_wp2_with fail
  refine P1.mono ?_
  rintro e w4 ⟨rfl, b4⟩
  have K4 := Lib.hid (And.intro (K3.out.1.below b4) (K3.out.2.below b4))
  clear d0 d1 d2 d3 d4 b4 K3 P1
  obtain ⟨_, d0, d1, d2, d3, d4⟩ := K4.out.2.all
  have P2 := O2.out A c _ (HA.out.below K4.out.2.bel)
  clear O2
  go_wp2_with fail
  refine P2.mono ?_
  rintro e w5 ⟨rfl, b5⟩
  have K5 := Lib.hid (And.intro (K4.out.1.below b5) (K4.out.2.below b5).bel)
  have KP := kept_any A c g L hn _ (HA.out.below K5.out.2) K5.out.1
  clear d0 d1 d2 d3 d4 b5 K4 P2
  go_wp2_with fail
  refine KP.mono ?_
  rintro e w6 ⟨rfl, b6⟩
  have K6 := Lib.hid (below_next K5.out.2 b6)
  clear KP b6 K5
  go_wp2_with fail
  go_ret
  exact ⟨by simp, K6.out⟩

set_option maxHeartbeats 4000000 in
set_option maxRecDepth 10000 in
theorem modelGuesses_walk (s : Sb) (hs : SbOk s) (A : Option Addr) (c : Nat) (L : List Int) (hL : U64s L) (hn : L.length ≤ 17592186044416) (w : World) (hA : ArgU w A L) :
    Calls Try.prog 5 #[s.v, .slice A L.length c] w fun e w' => e = .returned (.bool true) ∧ Below w.heap.size w w' := by
  have T0 := Lib.hid (TB.new s w)
  have SH := fun w => shown7 w
  have OF := fun w => segOf_any s w
  have HA := Lib.hid hA
  have HU := Lib.hid hL
  have G1 : Hid (∀ q, u64ok q → ∀ w, _) := Lib.hid fun q hq w => guess_any s.sg hs.sg q hq w
  have G2 : Hid (∀ q, u64ok q → ∀ w, _) := Lib.hid fun q hq w => refGuess_any s.sg hs.sg q hq w
  generalize guess s.sg = gs at G1 G2
  clear hs hA hL
  obtain ⟨first, sl, ic, fr, up⟩ := s
  unfold Sb.sg at OF G1 G2
  unfold Sg.v at OF G1 G2
  unfold Sb.v at OF ⊢
  simp only [] at OF G1 G2 ⊢
  go_enter Try.func5, Try.ntmps5
  go_wp2_with fail
  refine (SH _).mono ?_
  rintro e w1 ⟨rfl, b1⟩
  have T1 := Lib.hid (T0.out.below b1)
  obtain ⟨c0, c1, c2, c3, c4⟩ := T1.out.all
  clear b1 T0 SH
  go_wp2_with fail
  refine (OF _).mono ?_
  rintro e w2 ⟨rfl, b2⟩
  have K2 := Lib.hid (SB.late (T1.out.below b2).bel ⟨first, sl.toNat, ic.toNat, fr, up⟩)
  clear b2 T1 OF c0 c1 c2 c3 c4
  go_wp2_with fail
  go_loopw [7] (fun x wr => ∃ i : Nat, i ≤ L.length ∧ x = .int .i64 i ∧ Hid (SB w w2.heap.size ⟨first, sl.toNat, ic.toNat, fr, up⟩ wr)) (fun x _ => L.length - (intOf x).toNat)
  case atStart => exact ⟨0, Nat.zero_le _, rfl, K2⟩
  case round =>
    obtain ⟨i, hi, rfl, K⟩ := hrel
    clear K2
    by_cases hlt : i < L.length
    · have i0 : (0 : Int) ≤ (i : Int) := by omega
      have i1 : (i : Int) < (L.length : Int) := by omega
      obtain ⟨b, o, rfl, hb, hc0, hc⟩ := HA.out.first (by omega)
      have CC : Hid (∀ w', Below w.heap.size w w' → w'.cell? ⟨b, o + i, none⟩ = some (.int .u64 (L.getD i 0))) := Lib.hid fun w' k => (k.cell (p := ⟨b, _, none⟩) hb).trans (hc i hlt)
      have P1 := G1.out (L.getD i 0) (HU.out.getD hlt)
      have P2 := G2.out (L.getD i 0) (HU.out.getD hlt)
      generalize gs (L.getD i 0) = gv at P1 P2
      obtain ⟨k, hk⟩ : ∃ k, L.getD i 0 = k := ⟨_, rfl⟩
      rw [hk] at CC P1 P2
      clear hb hc0 hc hk
      obtain ⟨_, c0, c1, c2, c3, c4⟩ := K.out.all
      have ck := CC.out _ K.out.bel
      go_upto_region 8 with fail
      go_region_held3 (fun w' => SB w w2.heap.size ⟨first, sl.toNat, ic.toNat, fr, up⟩ w' ∧ w'.cell? ⟨w2.heap.size, 0, none⟩ = some (.int .u64 first) ∧ w'.cell? ⟨w2.heap.size, 1, none⟩ = some (.float .f64 sl.toNat) ∧ w'.cell? ⟨w2.heap.size, 2, none⟩ = some (.float .f64 ic.toNat) ∧ w'.cell? ⟨w2.heap.size, 3, none⟩ = some (.int .i64 fr) ∧ w'.cell? ⟨w2.heap.size, 4, none⟩ = some (.int .i64 up) ∧ w'.cell? ⟨b, o + i, none⟩ = some (.int .u64 k))
        (first | exact And.intro K.out.drew.all.1 (and_last K.out.drew.all.2 (CC.out _ K.out.drew.bel)) | exact And.intro HB.out.all.1 (and_last HB.out.all.2 (CC.out _ HB.out.bel)) | go_keep)
        (first | (go_at_call 19; (with_reducible refine (P1 _).mono ?_); rintro e5 w5 ⟨rfl, b5⟩; have HB := Lib.hid ((‹SB _ _ _ _ ∧ _›).1.below b5)))
      clear c0 c1 c2 c3 c4 ck K
      obtain ⟨_, c0, c1, c2, c3, c4⟩ := HB.out.all
      have ck := CC.out _ HB.out.bel
      go_upto_region 9 with fail
      go_region_held3 (fun w' => SB w w2.heap.size ⟨first, sl.toNat, ic.toNat, fr, up⟩ w' ∧ w'.cell? ⟨w2.heap.size, 0, none⟩ = some (.int .u64 first) ∧ w'.cell? ⟨w2.heap.size, 1, none⟩ = some (.float .f64 sl.toNat) ∧ w'.cell? ⟨w2.heap.size, 2, none⟩ = some (.float .f64 ic.toNat) ∧ w'.cell? ⟨w2.heap.size, 3, none⟩ = some (.int .i64 fr) ∧ w'.cell? ⟨w2.heap.size, 4, none⟩ = some (.int .i64 up) ∧ w'.cell? ⟨b, o + i, none⟩ = some (.int .u64 k))
        (first | exact And.intro HB.out.drew.all.1 (and_last HB.out.drew.all.2 (CC.out _ HB.out.drew.bel)) | exact And.intro HB2.out.all.1 (and_last HB2.out.all.2 (CC.out _ HB2.out.bel)) | go_keep)
        (first | (go_at_call 20; (with_reducible refine (P2 _).mono ?_); rintro e6 w6 ⟨rfl, b6⟩; have HB2 := Lib.hid ((‹SB _ _ _ _ ∧ _›).1.below b6)))
      clear c0 c1 c2 c3 c4 ck
      go_wp2_with fail
      go_roundw
      case rel => exact ⟨i + 1, by omega, by go_num, HB2⟩
      case measure => simp [intOf]; omega
    · obtain rfl : i = L.length := by omega
      have i1 : ¬ (L.length : Int) < (L.length : Int) := by omega
      go_wp2_with fail
      go_ret
      exact ⟨rfl, K.out.bel⟩
end Go.Proofs.Ytakegkdmpcakdaa
