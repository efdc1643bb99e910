/-
  Levels that are taken are right; calls on a pile, and on the law's slots.
-/
import Derived.Test.YtnccgpdniigekaaQG37
import Derived.Test.YtnccgpdniigekaaQG38
import Derived.Test.YtnccgpdniigekaaQG39
import Derived.StillTailTactics
namespace Go.Proofs.Ytnccgpdniigekaa
open Go.RowKit
set_option linter.unusedVariables false
set_option linter.unusedSimpArgs false
attribute [local go_sem high] run_store_float

theorem keysAt_cons (K : List Int) (l : List Sg) (ll : List (List Sg)) (L : Nat) : keysAt K (l :: ll) (L + 1) = keysAt (firstsL l) ll L := by
  rw [keysAt_succ]
  cases L with
  | zero => rw [keysAt_zero]; rfl
  | succ L => rw [keysAt_succ]; rfl
theorem levE_all {eps : Int} : ∀ {ll : List (List Sg)} {K : List Int}, levE eps ll K = 0 → (∀ l ∈ ll, ∀ s ∈ l, SgOk s) → U64s K → K.Pairwise (· < ·) → 0 < K.length →
    (∀ L, L < ll.length → Lev (keysAt K ll L) eps (ll.getD L []) ∧ 0 < (ll.getD L []).length) ∧ (keysAt K ll ll.length).length = 1
  | [], K, h, _, _, _, _ => ⟨fun L hL => absurd hL (by simp), by
    rw [levE] at h
    rw [List.length_nil, keysAt_zero]
    by_cases h1 : K.length = 1
    · exact h1
    · rw [if_neg h1] at h; omega⟩
  | l :: ll, K, h, hs, hU, hu, h0 => by
    obtain ⟨h1, h2, h3⟩ := levE_cons h
    have V : Lev K eps l := ⟨h1, h2, hs l (by simp), hU, hu⟩
    have hl := tl_pos (by omega) h1
    obtain ⟨r1, r2⟩ := levE_all h3 (fun m hm => hs m (by simp [hm])) V.ok' V.up' (by rw [firsts_len]; exact hl)
    refine ⟨fun L hL => ?_, ?_⟩
    · cases L with
      | zero => exact ⟨by rw [keysAt_zero]; exact V, hl⟩
      | succ L => rw [keysAt_cons]; exact r1 L (by simpa using hL)
    · rw [List.length_cons, keysAt_cons]; exact r2
/-- Levels that Check takes are right. -/
theorem right_of {eps : Int} {K : List Int} {ll : List (List Sg)} (h : chkI K eps ll = 0) (hU : U64s K) (hs : ∀ l ∈ ll, ∀ s ∈ l, SgOk s) (hk : K.length ≤ 17592186044416) (hls : ∀ l ∈ ll, l.length ≤ 17592186044416) : RightL eps K ll ∧ K.Pairwise (· < ·) ∧ (0 < ll.length ↔ 0 < K.length) := by
  obtain ⟨h1, h2, h3, h4, h5, h6⟩ := chk_zero h
  have hm : ll.length ≤ 4294967296 := by
    have e : mhI 4294967296 eps = (maxH eps.toNat 4294967296 : Int) := by
      unfold mhI; rw [if_neg (by omega)]; rfl
    have := (maxH_le (eps := eps.toNat) (by omega) 4294967296 (by omega)).2
    omega
  refine ⟨⟨fun L hL => ?_, fun L hL => ?_, fun h0 => ?_, h1, h2, hk, hm, hls⟩, h3, by omega⟩
  · have h0 : 0 < ll.length := Nat.lt_of_le_of_lt (Nat.zero_le _) hL
    exact ((levE_all (h6 h0) hs hU h3 (by omega)).1 L hL).1
  · have h0 : 0 < ll.length := Nat.lt_of_le_of_lt (Nat.zero_le _) hL
    exact ((levE_all (h6 h0) hs hU h3 (by omega)).1 L hL).2
  · have := (levE_all (h6 h0) hs hU h3 (by omega)).2
    obtain ⟨n, hn⟩ : ∃ n, ll.length = n + 1 := ⟨ll.length - 1, by omega⟩
    rw [hn, keysAt_succ, firsts_len] at this
    rw [hn]
    exact this
/-- What is made, if it may be, is right. -/
theorem made_right {w : World} {AK : Option Addr} {cK : Nat} {K : List Int} {eps : Int} {own : Bool} {AM : Option Addr} {cM : Nat} {M : List (List Sg)} (h : MadeArg w AK cK K own AM cM M) (ht : madeT eps K own M = true) :
    chkI K eps (madeL eps K own M) = 0 ∧ (∀ l ∈ madeL eps K own M, (∀ s ∈ l, SgOk s) ∧ l.length ≤ 1048576) := by
  unfold madeT at ht
  unfold madeL
  cases own with
  | true =>
    simp only [if_true] at ht ⊢
    exact ⟨by simpa using ht, fun l hl => ⟨h.segs l hl, h.lens l hl⟩⟩
  | false =>
    simp only [Bool.false_eq_true, if_false] at ht ⊢
    have hb : bldC eps K = 0 := by simpa using ht
    have hg : Good eps K := by
      unfold bldC at hb
      by_cases h1 : eps < 2 ∨ 64 < eps
      · rw [if_pos h1] at hb; omega
      · rw [if_neg h1] at hb
        by_cases h2 : K.Pairwise (· < ·)
        · exact ⟨by omega, by omega, h2⟩
        · rw [if_neg h2] at hb; omega
    have e : bldL eps K = buildL eps K := by unfold bldL; rw [if_pos hg]
    rw [e]
    obtain ⟨s1, s2⟩ := build_segs hg.1 hg.2.1 h.ok (Nat.le_trans h.len (by decide)) hg.2.2
    exact ⟨build_chk hg.1 hg.2.1 h.ok (Nat.le_trans h.len (by decide)) hg.2.2, fun l hl => ⟨(s1 l hl).1, Nat.le_trans (s1 l hl).2 h.len⟩⟩
theorem made_any {w : World} {AK : Option Addr} {cK : Nat} {K : List Int} {eps : Int} {own : Bool} {AM : Option Addr} {cM : Nat} {M : List (List Sg)} (h : MadeArg w AK cK K own AM cM M) :
    Calls Try.prog 30 #[.agg #[.slice AK K.length cK, .int .i64 eps, .bool own, .slice AM M.length cM]] w fun e w' => ∃ A c, e = .returned (.tuple #[.slice A (madeL eps K own M).length c, .bool (madeT eps K own M)]) ∧ ArgSS w' A (madeL eps K own M) ∧ Below w.heap.size w w' := by
  cases own with
  | true => exact made_own w h
  | false => exact made_built w h
section
variable {w0 w : World} {p : Nat} {AK : Option Addr} {cK : Nat} {AL : Option Addr} {cL : Nat} {eps : Int} {K : List Int} {ll : List (List Sg)} {q : Int}
theorem pile_find (hR : RightL eps K ll) (hq : u64ok q) (h : PileW p AK cK AL cL eps K ll w) :
    Calls Try.prog 38 #[.pointer (some ⟨p, 0, none⟩), .int .u64 q] w fun e w' => e = .returned (.tuple #[.int .i64 (fndN K ll q), .bool (fndT K ll q)]) ∧ Below w.heap.size w w' :=
  (find_P (w0 := w) (a0 := []) (s0 := []) hR hq (by simp) (by simp) ⟨h, Below.refl _ _⟩).mono fun e w' hh => by
    obtain ⟨h1, _, a, _, h2⟩ := hh
    exact ⟨h1, h2.bel⟩
theorem pile_path (hR : RightL eps K ll) (hq : u64ok q) (h : PileW p AK cK AL cL eps K ll w) :
    Calls Try.prog 39 #[.pointer (some ⟨p, 0, none⟩), .int .u64 q] w fun e w' => ∃ A c, e = .returned (.slice A ll.length c) ∧ ArgV w' A eps K ll q ∧ Below w.heap.size w w' ∧ ∀ g o, A = some ⟨g, o, none⟩ → ∃ cs, Blk w' g 69 cs :=
  (path_P (w0 := w) (a0 := []) (s0 := []) hR hq (by simp) (by simp) ⟨h, Below.refl _ _⟩).mono fun e w' hh => by
    obtain ⟨v, h1, h2, _, a, _, h3⟩ := hh
    obtain ⟨A, c, rfl, hA, hn⟩ := own_argv h2
    exact ⟨A, c, h1, hA, h3.bel, fun g o e => (hn g o e).2⟩
/-- New slots of the law. -/
theorem slots_new (hR : RightL eps K ll) (hK : ArgU w AK K) (hS : ArgSS w AL ll) : StS w w.heap.size AK cK AL cL eps K ll [] [] (w.alloc (.cells #[.slice AK K.length cK, .int .i64 eps, .slice AL ll.length cL, .slice none 0 0, .slice none 0 0, .bool false] 53)) :=
  ⟨.slice none 0 0, .slice none 0 0, Blk.new _ _ _, ⟨rfl, .inl ⟨rfl, rfl⟩⟩, ⟨rfl, .inl ⟨rfl, rfl⟩⟩, fun g hg => by simp [Value.ownBlock] at hg, Nat.le_refl _, below_new (Below.refl _ _) _, hK, hS, hR.nk, Nat.le_trans hR.nl (by decide), hR.ns⟩
theorem slots_find {a0 s0 : List (Nat × Nat)} (hR : RightL eps K ll) (hq : u64ok q) (h1 : a0.length ≤ 1000000000000) (h2 : s0.length ≤ 1000000000000) (h : StS w0 p AK cK AL cL eps K ll a0 s0 w) :
    Calls Try.prog 34 #[.pointer (some ⟨p, 0, none⟩), .int .u64 q] w fun e w' => e = .returned (.tuple #[.int .i64 (fndN K ll q), .bool (fndT K ll q)]) ∧ KeepT w w' ∧ Below w0.heap.size w0 w' ∧ ∃ a, AskOk eps K ll q 0 a ∧ StS w0 p AK cK AL cL eps K ll (a0 ++ a) (s0 ++ segsL K ll q 0) w' :=
  (find_S hR hq h1 h2 h).mono fun e w' hh => by
    obtain ⟨h1, k, a, ha, h2⟩ := hh
    exact ⟨h1, k, h2.bel, a, ha, h2⟩
theorem slots_path {a0 s0 : List (Nat × Nat)} (hR : RightL eps K ll) (hq : u64ok q) (h1 : a0.length ≤ 1000000000000) (h2 : s0.length ≤ 1000000000000) (h : StS w0 p AK cK AL cL eps K ll a0 s0 w) :
    Calls Try.prog 31 #[.pointer (some ⟨p, 0, none⟩), .int .u64 q] w fun e w' => ∃ A c, e = .returned (.slice A ll.length c) ∧ ArgV w' A eps K ll q ∧ KeepT w w' ∧ Below w0.heap.size w0 w' ∧ (∀ g o, A = some ⟨g, o, none⟩ → w.heap.size ≤ g ∧ ∃ cs, Blk w' g 69 cs) ∧ ∃ a, AskOk eps K ll q 0 a ∧ StS w0 p AK cK AL cL eps K ll (a0 ++ a) (s0 ++ segsL K ll q 0) w' :=
  (path_S hR hq h1 h2 h).mono fun e w' hh => by
    obtain ⟨v, h1, h2, k, a, ha, h3⟩ := hh
    obtain ⟨A, c, rfl, hA, hn⟩ := own_argv h2
    exact ⟨A, c, h1, hA, k, h3.bel, hn, a, ha, h3⟩
theorem ArgV.keepT {w w' : World} {A : Option Addr} (h : ArgV w A eps K ll q) (k : KeepT w w') (hA : ∀ g o, A = some ⟨g, o, none⟩ → ∃ cs, Blk w g 69 cs) : ArgV w' A eps K ll q ∧ ∀ g o, A = some ⟨g, o, none⟩ → ∃ cs, Blk w' g 69 cs :=
  ⟨h.keep fun g o e => by
    obtain ⟨cs, hb⟩ := hA g o e
    have hb' := k.blk g _ cs hb (by decide) (by decide)
    exact ⟨hb'.out.trans hb.out.symm, hb'.lt⟩, fun g o e => by
    obtain ⟨cs, hb⟩ := hA g o e
    exact ⟨cs, k.blk g _ cs hb (by decide) (by decide)⟩⟩
end
end Go.Proofs.Ytnccgpdniigekaa
/-
  'shown' of the laws of probe is true.
-/
namespace Go.Proofs.Ytnccgpdniigekaa
open Go.RowKit
set_option linter.unusedVariables false
set_option linter.unusedSimpArgs false
attribute [local go_sem high] run_store_float eqVis

def shK : List Int := [10, 20, 30, 40, 50]
def shS : Sg := ⟨10, 4587366580439587226, 4607182418800017408, 0, 5⟩
theorem shK_ok : U64s shK := by intro k hk; simp [shK] at hk; unfold u64ok; omega
theorem shS_ok : SgOk shS := ⟨by unfold u64ok shS; decide, by decide, by decide, by unfold i64ok shS; decide, by unfold i64ok shS; decide⟩
theorem sh_chk : chkI shK 2 [[shS]] = 0 := chk_single (by decide) (by decide) (by decide +kernel) (by decide) (by decide +kernel)
theorem sh_right : RightL 2 shK [[shS]] := (right_of sh_chk shK_ok (by intro l hl s hs; simp at hl; subst hl; simp at hs; subst hs; exact shS_ok) (by decide) (by intro l hl; simp at hl; subst hl; decide)).1
theorem sh_f35 : fndN shK [[shS]] 35 = 3 ∧ fndT shK [[shS]] 35 = false := by decide +kernel
theorem sh_f30 : fndN shK [[shS]] 30 = 2 ∧ fndT shK [[shS]] 30 = true := by decide +kernel
theorem sh_vis : slotAt shK [[shS]] 35 0 = 0 ∧ guess (sgAt shK [[shS]] 35 0) 35 = 2 ∧ loI 2 shK [[shS]] 35 0 = 0 ∧ hiI 2 shK [[shS]] 35 0 = 5 ∧ rankI shK [[shS]] 35 0 = 3 := by decide +kernel
set_option maxHeartbeats 4000000 in
set_option maxRecDepth 100000 in
theorem shown9 (w : World) : Calls Try.prog 29 #[] w fun e w' => e = .returned (.bool true) ∧ Below w.heap.size w w' := by
  have H1 : Hid (∀ (w' : World) (g1 g2 g3 : Nat), Blk w' g1 24 #[.int .u64 10, .int .u64 20, .int .u64 30, .int .u64 40, .int .u64 50] → Blk w' g2 33 #[.int .u64 10, .float .f64 4587366580439587226, .float .f64 4607182418800017408, .int .i64 0, .int .i64 5] → Blk w' g3 30 #[.slice (some ⟨g2, 0, none⟩) 1 1] →
      Calls Try.prog 37 #[.slice (some ⟨g1, 0, none⟩) 5 5, .int .i64 2, .slice (some ⟨g3, 0, none⟩) 1 1] w' fun e w2 => ∃ p AK cK AL cL, e = .returned (.tuple #[.pointer (some ⟨p, 0, none⟩), .int .i64 0]) ∧ PileW p AK cK AL cL 2 shK [[shS]] w2 ∧ Below w'.heap.size w' w2) := Lib.hid fun w' g1 g2 g3 h1 h2 h3 =>
    of_good _ 5 shK 2 _ 1 [[shS]] w' (ask_one (c1 := 5) (c2 := 1) (K := shK) (l := [shS]) shK_ok (by decide) (by decide) (by decide) (by intro s hs; simp at hs; subst hs; exact shS_ok) h1 h2 h3) sh_chk (by decide) (by decide) (by intro l hl; simp at hl; subst hl; decide)
  have F35 : Hid (∀ (w' : World) (p : Nat) AK cK AL cL, PileW p AK cK AL cL 2 shK [[shS]] w' → Calls Try.prog 38 #[.pointer (some ⟨p, 0, none⟩), .int .u64 35] w' fun e w2 => e = .returned (.tuple #[.int .i64 3, .bool false]) ∧ Below w'.heap.size w' w2) := Lib.hid fun w' p AK cK AL cL h => by
    have := pile_find sh_right (q := 35) (by unfold u64ok; omega) h
    rw [sh_f35.1, sh_f35.2] at this
    exact this
  have F30 : Hid (∀ (w' : World) (p : Nat) AK cK AL cL, PileW p AK cK AL cL 2 shK [[shS]] w' → Calls Try.prog 38 #[.pointer (some ⟨p, 0, none⟩), .int .u64 30] w' fun e w2 => e = .returned (.tuple #[.int .i64 2, .bool true]) ∧ Below w'.heap.size w' w2) := Lib.hid fun w' p AK cK AL cL h => by
    have := pile_find sh_right (q := 30) (by unfold u64ok; omega) h
    rw [sh_f30.1, sh_f30.2] at this
    exact this
  have P35 : Hid (∀ (w' : World) (p : Nat) AK cK AL cL, PileW p AK cK AL cL 2 shK [[shS]] w' → Calls Try.prog 39 #[.pointer (some ⟨p, 0, none⟩), .int .u64 35] w' fun e w2 => ∃ g o c, e = .returned (.slice (some ⟨g, o, none⟩) 1 c) ∧ Below w'.heap.size w' w2 ∧
      (w2.cell? ⟨g, o, none⟩ = some (.int .i64 0) ∧ w2.cell? ⟨g, o + 1, none⟩ = some (.int .i64 0) ∧ w2.cell? ⟨g, o + 2, none⟩ = some (.int .i64 2) ∧ w2.cell? ⟨g, o + 3, none⟩ = some (.int .i64 0) ∧ w2.cell? ⟨g, o + 4, none⟩ = some (.int .i64 5) ∧ w2.cell? ⟨g, o + 5, none⟩ = some (.int .i64 3))) := Lib.hid fun w' p AK cK AL cL h => by
    refine (pile_path sh_right (q := 35) (by unfold u64ok; omega) h).mono ?_
    rintro e w2 ⟨A, c, rfl, hA, hb, _⟩
    obtain ⟨g, o, rfl, a0, a1, a2, a3, a4, a5⟩ := hA.at_ (i := 0) (by decide)
    obtain ⟨v1, v2, v3, v4, v5⟩ := sh_vis
    have e0 : ([[shS]] : List (List Sg)).length - 1 - 0 = 0 := rfl
    rw [e0] at a0 a1 a2 a3 a4 a5
    rw [v1] at a1
    rw [v2] at a2
    rw [v3] at a3
    rw [v4] at a4
    rw [v5] at a5
    exact ⟨g, o, c, rfl, hb, a0, a1, a2, a3, a4, a5⟩
  go_enter Try.func29, Try.ntmps29
  go_wp2_with fail
  refine (H1.out _ _ _ _ (((Blk.new w _ _).alloc _).alloc _) ((Blk.new' (g := w.heap.size + 1) _ _ (by simp)).alloc _) (Blk.new' (g := w.heap.size + 1 + 1) _ _ (by simp))).mono ?_
  rintro e w1 ⟨p, AK, cK, AL, cL, rfl, hp, b1⟩
  have HP := Lib.hid hp
  have B1 := Lib.hid (below_next (below_new (below_new (below_new (Below.refl w.heap.size w) _) _) _) b1)
  clear hp b1 H1
  go_wp2_with fail
  refine (F35.out _ _ _ _ _ _ HP.out).mono ?_
  rintro e w2 ⟨rfl, b2⟩
  have HP2 := Lib.hid (HP.out.below b2)
  have B2 := Lib.hid (below_next B1.out b2)
  clear b2 F35
  go_wp2_with fail
  refine (F30.out _ _ _ _ _ _ HP2.out).mono ?_
  rintro e w3 ⟨rfl, b3⟩
  have HP3 := Lib.hid (HP2.out.below b3)
  have B3 := Lib.hid (below_next B2.out b3)
  clear b3 F30
  go_wp2_with fail
  refine (P35.out _ _ _ _ _ _ HP3.out).mono ?_
  rintro e w4 ⟨g, o, c, rfl, b4, x0, x1, x2, x3, x4, x5⟩
  have B4 := Lib.hid (below_next B3.out b4)
  clear b4 P35
  go_wp2_with fail
  go_ret
  exact ⟨rfl, B4.out⟩
end Go.Proofs.Ytnccgpdniigekaa
/-
  Words for the laws of probe.
-/
namespace Go.Proofs.Ytnccgpdniigekaa
open Go.RowKit
set_option linter.unusedVariables false
set_option linter.unusedSimpArgs false
attribute [local go_sem high] run_store_float

theorem StS.wrong {w0 w : World} {p : Nat} {AK : Option Addr} {cK : Nat} {AL : Option Addr} {cL : Nat} {eps : Int} {K : List Int} {ll : List (List Sg)} {a s : List (Nat × Nat)} (h : StS w0 p AK cK AL cL eps K ll a s w) : w.cell? ⟨p, 5, none⟩ = some (.bool false) := by
  obtain ⟨av, sv, h⟩ := h
  exact h.cells.2.2.2.2.2
theorem segs_short {K : List Int} {ll : List (List Sg)} {q : Int} (h : ll.length ≤ 4294967296) : (segsL K ll q 0).length ≤ 1000000000000 := by rw [segsL_len]; omega
theorem AskOk.le {eps : Int} {K : List Int} {ll : List (List Sg)} {q : Int} {m : Nat} {a : List (Nat × Nat)} (h : AskOk eps K ll q m a) (hR : RightL eps K ll) : a.length ≤ 1000000000000 := by
  have := h.short hR.e1 hR.e2 hR.nl; omega
theorem RP.argv {w w' : World} {eps : Int} {K : List Int} {ll : List (List Sg)} {q : Int} {v : Value} (h : RP w eps K ll q v 0 w') : ∃ A c, v = .slice A ll.length c ∧ ArgV w' A eps K ll q := by
  have h1 := h.own
  rw [Nat.sub_zero] at h1
  obtain ⟨A, c, e, hA, _⟩ := own_argv h1
  exact ⟨A, c, e, hA⟩
theorem q_num {i n : Nat} (h : i < n) (hn : n ≤ 1048576) : (0 : Int) ≤ (i : Int) ∧ (i : Int) < (n : Int) ∧ wrap64 ((i : Int) + 1) = (i : Int) + 1 := by
  refine ⟨by omega, by omega, by unfold wrap64; omega⟩
end Go.Proofs.Ytnccgpdniigekaa
