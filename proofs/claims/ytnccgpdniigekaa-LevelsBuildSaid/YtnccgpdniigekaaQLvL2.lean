/-
  The law: what is built is right.
-/
import Derived.Test.YtnccgpdniigekaaQG27
import Derived.Test.YtnccgpdniigekaaQG33
namespace Go.Proofs.Ytnccgpdniigekaa
open Go.RowKit
set_option linter.unusedVariables false
set_option linter.unusedSimpArgs false
attribute [local go_sem high] run_store_float

/-- What may be asked of what is built. -/
theorem build_segs {eps : Int} {K : List Int} (h1 : 2 ≤ eps) (h2 : eps ≤ 64) (hU : U64s K) (hn : K.length ≤ 4294967296) (hu : K.Pairwise (· < ·)) :
    (∀ l ∈ buildL eps K, (∀ s ∈ l, SgOk s) ∧ l.length ≤ K.length) ∧ (buildL eps K).length ≤ K.length := by
  by_cases h0 : K = []
  · subst h0; rw [buildL_nil]; exact ⟨fun l hl => absurd hl (by simp), Nat.le_refl _⟩
  · have hl : 0 < K.length := List.length_pos_iff.2 h0
    obtain ⟨r1, r2, r3, r4⟩ := build_right h1 h2 _ K rfl hU hn hu hl
    exact ⟨r4, Nat.le_trans r3 (maxH_le (by omega) _ (by omega)).2⟩
theorem build_ask {eps : Int} {K : List Int} (h1 : 2 ≤ eps) (h2 : eps ≤ 64) (hU : U64s K) (hn : K.length ≤ 4294967296) (hu : K.Pairwise (· < ·)) {c : Nat} (hc : K.length ≤ c) {w : World} {A B : Option Addr} (hA : ArgU w A K) (hB : ArgSS w B (buildL eps K)) : AskC w A c K B (buildL eps K) := by
  obtain ⟨a, b⟩ := build_segs h1 h2 hU hn hu
  exact ⟨hU, by omega, hc, hA, fun l hl => (a l hl).1, fun l hl => by have := (a l hl).2; omega, by omega, hB⟩

set_option maxHeartbeats 4000000 in
set_option maxRecDepth 100000 in
theorem lvRight_walk (A : Option Addr) (c : Nat) (K : List Int) (hK : U64s K) (hn : K.length ≤ 4294967296) (hc : K.length ≤ c) (eps : Int) (w : World) (hA : ArgU w A K) :
    Calls Try.prog 6 #[.slice A K.length c, .int .i64 eps] w fun e w' => e = .returned (.bool true) ∧ Below w.heap.size w w' := by
  have SH := shown8 w
  have HA := Lib.hid hA
  by_cases hb : eps < 2 ∨ 64 < eps
  · have BB := fun w' => build_bad eps hb A K.length c w'
    have HB := Lib.hid hb
    clear hA hb
    go_enter Try.func6, Try.ntmps6
    go_wp2_with fail
    refine SH.mono ?_
    rintro e w1 ⟨rfl, b1⟩
    have B1 := Lib.hid b1
    clear b1
    go_wp2_with fail
    refine (BB _).mono ?_
    rintro e w2 ⟨rfl, rfl⟩
    by_cases h1 : eps < 2
    · go_wp2_with fail
      go_ret
      exact ⟨rfl, B1.out⟩
    · have h2 : 64 < eps := by have := HB.out; omega
      go_wp2_with fail
      go_ret
      exact ⟨rfl, B1.out⟩
  · have h1 : ¬ eps < 2 := by omega
    have h2 : ¬ 64 < eps := by omega
    by_cases hu : K.Pairwise (· < ·)
    · have BG := fun w' (h : ArgU w' A K) => build_good eps (by omega) (by omega) A c K hK hn hc hu w' h
      have CK := build_chk (eps := eps) (by omega) (by omega) hK hn hu
      have AK := Lib.hid (fun (w' : World) B (h : ArgU w' A K) (h' : ArgSS w' B (buildL eps K)) => build_ask (eps := eps) (by omega) (by omega) hK hn hu hc h h')
      have RR := fun w' (h : ArgU w' A K) => ref_Rising A c K (by omega) w' h
      rw [decide_eq_true hu] at RR
      have C1 := fun B d w' h => check_lv A c K eps B d (buildL eps K) w' h
      have C2 := fun B d w' h => rcheck_lv A c K eps B d (buildL eps K) w' h
      rw [CK] at C1 C2
      generalize buildL eps K = ll at *
      clear hA hb hu CK hc hn hK
      go_enter Try.func6, Try.ntmps6
      go_wp2_with fail
      refine SH.mono ?_
      rintro e w1 ⟨rfl, b1⟩
      have B1 := Lib.hid b1
      clear b1
      go_wp2_with fail
      refine (BG _ (HA.out.below B1.out)).mono ?_
      rintro e w2 ⟨v, gs, rfl, L⟩
      obtain ⟨B, d, rfl, hB⟩ := L.arg
      have S2 := Lib.hid (And.intro hB (below_next B1.out L.bel))
      clear L hB
      go_wp2_with fail
      refine (RR _ (HA.out.below S2.out.2)).mono ?_
      rintro e w3 ⟨rfl, b3⟩
      have S3 := Lib.hid (And.intro (S2.out.1.below b3) (below_next S2.out.2 b3))
      clear b3 S2
      go_wp2_with fail
      refine (C1 _ _ _ (AK.out _ _ (HA.out.below S3.out.2) S3.out.1)).mono ?_
      rintro e w4 ⟨rfl, b4⟩
      have S4 := Lib.hid (And.intro (S3.out.1.below b4) (below_next S3.out.2 b4))
      clear b4 S3
      go_wp2_with fail
      refine (C2 _ _ _ (AK.out _ _ (HA.out.below S4.out.2) S4.out.1)).mono ?_
      rintro e w5 ⟨rfl, b5⟩
      have S5 := Lib.hid (below_next S4.out.2 b5)
      clear b5 S4
      go_wp2_with fail
      go_ret
      exact ⟨rfl, S5.out⟩
    · have BU := fun w' (h : ArgU w' A K) => build_unsorted eps (by omega) (by omega) A c K (by omega) hu w' h
      have RR := fun w' (h : ArgU w' A K) => ref_Rising A c K (by omega) w' h
      rw [decide_eq_false hu] at RR
      clear hA hb hu
      go_enter Try.func6, Try.ntmps6
      go_wp2_with fail
      refine SH.mono ?_
      rintro e w1 ⟨rfl, b1⟩
      have B1 := Lib.hid b1
      clear b1
      go_wp2_with fail
      refine (BU _ (HA.out.below B1.out)).mono ?_
      rintro e w2 ⟨rfl, b2⟩
      have B2 := Lib.hid (below_next B1.out b2)
      clear b2
      go_wp2_with fail
      refine (RR _ (HA.out.below B2.out)).mono ?_
      rintro e w3 ⟨rfl, b3⟩
      have B3 := Lib.hid (below_next B2.out b3)
      clear b3
      go_wp2_with fail
      go_ret
      exact ⟨rfl, B3.out⟩
end Go.Proofs.Ytnccgpdniigekaa
