/-
  HullFits: the walk.
-/
import Derived.Test.YtanhhgifcolfaaaQHuFitA
import Derived.Test.YtanhhgifcolfaaaQHuMovP
namespace Go.Proofs.Ytanhhgifcolfaaa
open Go.RowKit
set_option linter.unusedVariables false
set_option linter.unusedSimpArgs false

/-- Where the loop stands: the fit, and what was taken in a slice of its own. -/
structure FT (w : World) (b : Nat) (e : Int) (F : Fit) (A8 : Option Addr) (c8 : Nat) (S : Nat → Prop) (wr : World) : Prop where
  fit : FitO wr b e F S
  new : ∀ k, S k → w.heap.size ≤ k
  row : KRow wr 0 (.slice A8 F.keys.length c8) F.keys
  sep : ∀ g, (Value.slice A8 F.keys.length c8).ownBlock = some g → ¬ S g
  bel : Below w.heap.size w wr
  full : Full e F
  u64 : U64s F.keys
  len : F.keys.length ≤ 400
section
variable {w wr w5 wx : World} {b : Nat} {e : Int} {F : Fit} {A8 A9 : Option Addr} {c8 c9 : Nat} {S : Nat → Prop}
/-- A slice of one's own reads as what it holds. -/
theorem KRow.arg {K : List Int} {A : Option Addr} {c base : Nat} (h : KRow wr base (.slice A K.length c) K) : ArgU wr A K := by
  intro hn
  rcases h.2 with ⟨hv, h0⟩ | ⟨g, cap, cur, hv, hb, hg, hr⟩
  · omega
  · injection hv with h1 h2 h3
    subst h1
    refine ⟨g, 0, rfl, Blk.lt (t := 34) hg, fun i hi => ?_⟩
    have hadd : ∀ j, (⟨g, 0, none⟩ : Addr).add j = ⟨g, j, none⟩ := fun j => by unfold Addr.add; split <;> simp_all
    have := World.ownsRow.cells (g := g) h rfl i (.int .u64 K[i]) (by simp [hi])
    rw [hadd] at this
    simpa using this
theorem KRow.chg {K : List Int} {v : Value} {base : Nat} {P : Nat → Prop} (h : KRow wr base v K) (k : Chg P wr w5) (hv : ∀ g, v.ownBlock = some g → ¬ P g) : KRow w5 base v K := own_chg h k hv
theorem FT.nq (h : FT w b e F A8 c8 S wr) (he0 : 0 ≤ e) (he1 : e ≤ 64) {s : Fr} (h1 : 0 ≤ s.1) (h2 : s.1 ≤ 4611686018427387904) (h3 : u64ok s.2) : NQ wr s F.keys e A8 :=
  ⟨h.row.arg, h.u64, h.full.ok.up, by have := h.len; omega, he0, he1, h1, h2, h3⟩
theorem FT.u64s (h : FT w b e F A8 c8 S wr) : u64ok F.low.2 ∧ u64ok F.top.2 := by
  obtain ⟨c0, c1, s⟩ := h.fit.s
  exact ⟨s.fl.2, s.ft.2⟩
theorem FT.below (h : FT w b e F A8 c8 S wr) (k : Below wr.heap.size wr wx) : FT w b e F A8 c8 S wx := ⟨h.fit.below k, h.new, h.row.chg (Chg.of_below k) (fun _ _ h => h), h.sep, below_next h.bel k, h.full, h.u64, h.len⟩
/-- A key that is refused, or late: the same fit. -/
theorem FT.same (h : FT w b e F A8 c8 S wr) {S' : Nat → Prop} (hf : FitO w5 b e F S') (hc : Chg S wr w5) (hn : ∀ k, S' k → S k ∨ wr.heap.size ≤ k) : FT w b e F A8 c8 S' w5 :=
  ⟨hf, fun k hk => (hn k hk).elim (h.new k) (fun m => Nat.le_trans h.bel.size m), h.row.chg hc h.sep, fun g hg hs => (hn g hs).elim (h.sep g hg) (fun m => by have := own_lt h.row hg; omega), below_chg h.bel hc (fun k _ hk => h.new k hk) h.bel.size, h.full, h.u64, h.len⟩
/-- A key that is taken. -/
theorem FT.taken (h : FT w b e F A8 c8 S wr) {F' : Fit} {key : Int} (hF : F'.keys = F.keys ++ [key]) (hfull : Full e F') (hk : u64ok key) (hlen : F.keys.length < 400) {S' : Nat → Prop} (hf : FitO w5 b e F' S') (hc : Chg S wr w5) (hn : ∀ k, S' k → S k ∨ wr.heap.size ≤ k) (hw : WA w5 F'.keys (.slice A9 F'.keys.length c9) wx) :
    FT w b e F' A9 c9 S' wx :=
  ⟨hf.below hw.bel, fun k hk => (hn k hk).elim (h.new k) (fun m => Nat.le_trans h.bel.size m), own_mono hw.row (fun _ _ => Nat.zero_le _), fun g hg hs => by have := (hw.row.lt g hg).1; have := hf.lt g hs; omega, below_next (below_chg h.bel hc (fun k _ hk => h.new k hk) h.bel.size) hw.bel, hfull,
    fun x hx => by rw [hF] at hx; rcases List.mem_append.1 hx with m | m; exact h.u64 x m; simp at m; subst m; exact hk, by rw [hF]; simp; omega⟩
end
/-- Where the loop stands, by its slots. -/
def FTo (w : World) (b : Nat) (e : Int) (L : List Int) (x8 x9 : Value) (wr : World) : Prop :=
  ∃ (i : Nat) (F : Fit) (A8 : Option Addr) (c8 : Nat) (S : Nat → Prop), i ≤ L.length ∧ x8 = .slice A8 F.keys.length c8 ∧ x9 = .int .i64 i ∧ FT w b e F A8 c8 S wr
set_option maxHeartbeats 4000000 in
set_option maxRecDepth 100000 in
theorem fits_end {w wr : World} {b c8 : Nat} {eps : Int} {F : Fit} {A8 : Option Addr} {S : Nat → Prop} (HR : Hid (FT w b (eps - 1) F A8 c8 S wr)) (h1 : 2 ≤ eps) (h2 : eps ≤ 64) (u1 u2 u3 u4 u7 u9 u10 u11 u12 u13 u14 u15 u16 u17 u18 u19 u20 u21 u22 u23 u24 u25 u26 u27 u28 u29 u30 u31 u32 u33 u34 u35 u36 u37 u38 u39 u40 u41 u42 u43 u44 u45 u46 u47 u48 u49 u50 u51 u52 u53 u54 u55 u56 u57 u58 u59 u60 u61 u62 u63 u64 u65 u66 u67 u68 u69 u70 u71 u72 u73 u74 u75 u76 u77 u78 u79 u80 u81 u82 u83 u84 u85 u86 u87 u88 u89 u90 u91 u92 u93 u94 u95 u96 u97 u98 u99 u100 u101 u102 u103 u104 u105 u106 u107 u108 u109 u110 : Value) {Q : Exit → Act → World → Prop}
    (hK : ∀ (x89 x90 x91 x92 x93 x94 x95 x96 x97 x98 x99 x100 x101 x102 x103 x104 x105 x106 x107 x108 x109 x110 : Value) (wx : World), Hid (Below w.heap.size w wx) → Q .normal ⟨#[.int .i64 eps, u1, u2, u3, .bool true, .bool true, .pointer (some ⟨b, 0, none⟩), u7, .slice A8 F.keys.length c8, u9, u10, u11, u12, u13, u14, u15, u16, u17, u18, u19, u20, u21, u22, u23, u24, u25, u26, u27, u28, u29, u30, u31, u32, u33, u34, u35, u36, u37, u38, u39, u40, u41, u42, u43, u44, u45, u46, u47, u48, u49, u50, u51, u52, u53, u54, u55, u56, u57, u58, u59, u60, u61, u62, u63, u64, u65, u66, u67, u68, u69, u70, u71, u72, u73, u74, u75, u76, u77, u78, u79, u80, u81, u82, u83, u84, u85, u86, u87, u88, x89, x90, x91, x92, x93, x94, x95, x96, x97, x98, x99, x100, x101, x102, x103, x104, x105, x106, x107, x108, x109, x110], []⟩ wx) :
    Code.wp Try.prog (regAt 18 fiB) Q ⟨#[.int .i64 eps, u1, u2, u3, u4, .bool true, .pointer (some ⟨b, 0, none⟩), u7, .slice A8 F.keys.length c8, u9, u10, u11, u12, u13, u14, u15, u16, u17, u18, u19, u20, u21, u22, u23, u24, u25, u26, u27, u28, u29, u30, u31, u32, u33, u34, u35, u36, u37, u38, u39, u40, u41, u42, u43, u44, u45, u46, u47, u48, u49, u50, u51, u52, u53, u54, u55, u56, u57, u58, u59, u60, u61, u62, u63, u64, u65, u66, u67, u68, u69, u70, u71, u72, u73, u74, u75, u76, u77, u78, u79, u80, u81, u82, u83, u84, u85, u86, u87, u88, u89, u90, u91, u92, u93, u94, u95, u96, u97, u98, u99, u100, u101, u102, u103, u104, u105, u106, u107, u108, u109, u110], []⟩ wr := by
  conv => arg 2; whnf
  have HKK := Lib.hid hK
  clear hK
  have he0 : 0 ≤ eps - 1 := by omega
  have he1 : eps - 1 ≤ 64 := by omega
  have nt0 := HR.out.full.ok.low.ok.num
  have nt1 := HR.out.full.num_low he0
  have nt2 := HR.out.full.ok.top.ok.num
  have nt3 := HR.out.full.num_top he0
  have nt4 := HR.out.u64s
  have hl4 := HR.out.len
  have HNT := Lib.hid (And.intro nt0 (And.intro nt1 (And.intro nt2 (And.intro nt3 nt4))))
  clear nt0 nt1 nt2 nt3 nt4
  have HN1 : Hid (nearB F.low F.keys (eps - 1) = true) := Lib.hid (HR.out.full.near_low he0 HR.out.full.den_low)
  have HN2 : Hid (2 ≤ F.keys.length → nearB F.top F.keys (eps - 1) = true) := Lib.hid (fun h2 => HR.out.full.near_top he0 (HR.out.full.den_top he0 h2))
  have ue : IntKind.i64.wrap (eps - 1) = eps - 1 := IntWalk.i64_in _ (by omega)
  have C1 := hull_Least HR.out.fit
  by_cases hk : F.keys.length < 2
  all_goals
    first | have gg : decide ((F.keys.length : Int) < 2) = true := by simpa using (by omega : (F.keys.length : Int) < 2) | have gg : decide ((F.keys.length : Int) < 2) = false := by simpa using (by omega : 2 ≤ (F.keys.length : Int))
    go_wp2_with fail
    refine C1.mono ?_
    rintro e w6 ⟨rfl, b6⟩
    have HY := Lib.hid (HR.out.below b6)
    have C2 := ref_Near (c := c8) (HY.out.nq he0 he1 HNT.out.1 (by have := HNT.out.2.1; omega) HNT.out.2.2.2.2.1)
    rw [HN1.out] at C2
    clear C1 b6
    go_wp2_with fail
    refine C2.mono ?_
    rintro e w7 ⟨rfl, b7⟩
    have HZ := Lib.hid (HY.out.below b7)
    clear C2 b7
    go_wp2_with fail
  · exact HKK.out _ _ _ _ _ _ _ _ _ _ _ _ _ _ _ _ _ _ _ _ _ _ _ (Lib.hid HZ.out.bel)
  · have h22 := HN2.out (by omega)
    have HH := Lib.hid h22
    have C4 := hull_Most HZ.out.fit
    clear h22 HN2
    refine C4.mono ?_
    rintro e w9 ⟨rfl, b9⟩
    have HZ9 := Lib.hid (HZ.out.below b9)
    have C5 := ref_Near (c := c8) (HZ9.out.nq he0 he1 HNT.out.2.2.1 (by have := HNT.out.2.2.2.1; omega) HNT.out.2.2.2.2.2)
    rw [HH.out] at C5
    clear C4 b9
    go_wp2_with fail
    refine C5.mono ?_
    rintro e w10 ⟨rfl, b10⟩
    have HZ10 := Lib.hid (HZ9.out.below b10)
    clear C5 b10
    go_wp2_with fail
    exact HKK.out _ _ _ _ _ _ _ _ _ _ _ _ _ _ _ _ _ _ _ _ _ _ _ (Lib.hid HZ10.out.bel)
set_option maxHeartbeats 8000000 in
set_option maxRecDepth 100000 in
theorem fits_walk (eps : Int) (A : Option Addr) (c : Nat) (L : List Int) (hL : U64s L) (hn : L.length ≤ 17592186044416) (w : World) (hA : ArgU w A L) :
    Calls Try.prog 6 #[.int .i64 eps, .slice A L.length c] w fun e w' => e = .returned (.bool true) ∧ Below w.heap.size w w' := by
  have SH := shown_any w
  have HU := Lib.hid hL
  have HA := Lib.hid hA
  have HN := Lib.hid hn
  clear hL hA hn
  by_cases hb : eps < 2 ∨ 64 < eps
  · have NB := fun w => hull_New_bad eps hb w
    by_cases h2 : eps < 2
    · go_enter Try.func6, Try.ntmps6
      go_wp2_with fail
      refine SH.mono ?_
      rintro e w1 ⟨rfl, b1⟩
      go_wp2_with fail
      refine (NB w1).mono ?_
      rintro e w2 ⟨rfl, rfl⟩
      go_wp2_with fail
      go_ret
      exact ⟨rfl, b1⟩
    · have h3 : 64 < eps := by omega
      go_enter Try.func6, Try.ntmps6
      go_wp2_with fail
      refine SH.mono ?_
      rintro e w1 ⟨rfl, b1⟩
      go_wp2_with fail
      refine (NB w1).mono ?_
      rintro e w2 ⟨rfl, rfl⟩
      go_wp2_with fail
      go_ret
      exact ⟨rfl, b1⟩
  · have h1 : ¬ eps < 2 := by omega
    have h2 : ¬ 64 < eps := by omega
    have N := fun w => hull_New eps (by omega) (by omega) w
    have he0 : 0 ≤ eps - 1 := by omega
    have he1 : eps - 1 ≤ 64 := by omega
    clear hb
    go_enter Try.func6, Try.ntmps6
    go_wp2_with fail
    refine SH.mono ?_
    rintro e w1 ⟨rfl, b1⟩
    go_wp2_with fail
    refine (N w1).mono ?_
    rintro e w2 ⟨rfl, b2, F2⟩
    have H0 : Hid (FT w w1.heap.size (eps - 1) Fit.zero (some ⟨w2.heap.size, 0, none⟩) 0 (fun k => k = w1.heap.size) (w2.alloc (.cells #[] 34))) := Lib.hid
      ⟨F2.below (below_new (Below.refl _ _) _), fun k hk => by have := b1.size; omega, World.ownsRow_made (e := 34) (size := 1) (base := 0) w2 #[] 0 (Nat.zero_le _) (by unfold maxLen; omega) rfl, fun g hg hs => by simp [Value.ownBlock] at hg; have := F2.lt w1.heap.size rfl; omega, below_new (below_next b1 b2) _, Full.zero _, fun x hx => by simp [Fit.zero] at hx, by simp [Fit.zero]⟩
    clear SH N b1 b2 F2
    go_wp2_with fail
    generalize w1.heap.size = b at *
    go_loopw [8, 9] (fun x8 x9 wr => FTo w b (eps - 1) L x8 x9 wr) (fun _ x _ => L.length - (intOf x).toNat)
    case atStart => exact ⟨0, Fit.zero, _, 0, _, by omega, rfl, rfl, H0.out⟩
    case round =>
      obtain ⟨i, F, A8, c8, S, hi, rfl, rfl, R⟩ := hrel
      have HR := Lib.hid R
      have hl4 := R.len
      have hn := HN.out
      clear R H0
      have ue : IntKind.i64.wrap (eps - 1) = eps - 1 := IntWalk.i64_in _ (by omega)
      by_cases hlt : i < L.length ∧ F.keys.length < 400
      · obtain ⟨hlt, h4⟩ := hlt
        obtain ⟨bb, o, rfl, hbl, hc0⟩ := HA.out.at hlt
        have hu := HU.out.at hlt
        obtain ⟨key, hkey⟩ : ∃ key, L[i] = key := ⟨_, rfl⟩
        rw [hkey] at hc0 hu
        have hcr : wr.cell? ⟨bb, o + i, none⟩ = some (.int .u64 key) := (HR.out.bel.cell (p := ⟨bb, _, none⟩) hbl).trans hc0
        have HUK := Lib.hid hu
        have g1 : decide ((F.keys.length : Int) < 400) = true := by simpa using (by omega : (F.keys.length : Int) < 400)
        have AD := hull_AddO key hu (by omega) HR.out.fit
        clear hkey hu hc0
        by_cases hla : F.late key = true
        · have hadd : F.add (eps - 1) key = ((false, 40), F) := Fit.add_late hla
          have HAD := Lib.hid hadd
          rw [hadd] at AD
          clear hla hadd
          go_wp2_with fail
          refine AD.mono ?_
          rintro e w5 ⟨rfl, S', f1, f2, f3⟩
          rw [HAD.out] at f1
          have HE := Lib.hid (HR.out.same f1 f2 f3)
          clear AD f1 f2 f3 hcr
          go_wp2_with fail
          go_roundw
          case rel => exact ⟨i + 1, F, A8, c8, _, by omega, rfl, by go_num, HE.out⟩
          case measure => simp [intOf]; omega
        · have hla : F.late key = false := by simpa using hla
          have nt0 := HR.out.full.ok.low.ok.num
          have nt1 := HR.out.full.num_low he0
          have nt2 := HR.out.full.ok.top.ok.num
          have nt3 := HR.out.full.num_top he0
          have nt4 := HR.out.u64s
          have HNT := Lib.hid (And.intro nt0 (And.intro nt1 (And.intro nt2 (And.intro nt3 nt4))))
          clear nt0 nt1 nt2 nt3 nt4
          by_cases hlf : ltF (F.topWith (eps - 1) key) (F.lowWith (eps - 1) key)
          · have hadd : F.add (eps - 1) key = ((false, 0), F) := Fit.add_refuse hla hlf
            have HAD := Lib.hid hadd
            have HRF := Lib.hid (And.intro hla hlf)
            rw [hadd] at AD
            clear hla hlf hadd
            go_wp2_with fail
            refine AD.mono ?_
            rintro e w5 ⟨rfl, S', f1, f2, f3⟩
            rw [HAD.out] at f1
            have HE := Lib.hid (HR.out.same f1 f2 f3)
            have hc5 : w5.cell? ⟨bb, o + i, none⟩ = some (.int .u64 key) := (HE.out.bel.cell (p := ⟨bb, _, none⟩) hbl).trans ((HR.out.bel.cell (p := ⟨bb, _, none⟩) hbl).symm.trans hcr)
            clear AD f1 f2 f3 hcr
            go_upto_region 13 with fail
            refine fits_with (Lib.hid HE.out.row) (by omega) hlt hn hc5 _ _ _ _ _ _ _ _ _ _ _ _ _ _ _ _ _ _ _ _ _ _ _ _ _ _ _ _ _ _ _ _ _ _ _ _ _ _ _ _ _ _ _ _ _ _ _ _ _ _ _ _ _ _ _ _ _ _ _ _ _ _ _ _ _ _ _ _ _ _ _ _ _ _ _ _ _ _ _ _ _ _ _ _ _ _ _ _ _ _ _ _ _ _ _ _ _ _ _ _ _ _ _ _ _ _ _ _ ?_
            intro _ _ _ _ _ _ _ _ _ v wx HW
            obtain ⟨A9, c9, hv⟩ := HW.out.row.val
            subst hv
            have HX := Lib.hid (HE.out.below HW.out.bel)
            have HAL : Hid (ArgU wx A9 (F.keys ++ [key]) ∧ U64s (F.keys ++ [key]) ∧ (F.keys ++ [key]).Pairwise (· < ·) ∧ (F.keys ++ [key]).length ≤ 17592186044416) := Lib.hid
              ⟨HW.out.row.arg, fun x hx => by rcases List.mem_append.1 hx with m | m; exact HR.out.u64 x m; simp at m; subst m; exact HUK.out, List.pairwise_append.2 ⟨HR.out.full.ok.up, List.pairwise_singleton _ _, fun a ha x hx => by
                obtain rfl : x = key := by simpa using hx
                obtain ⟨j, hj, rfl⟩ := List.mem_iff_getElem.1 ha
                have := HR.out.full.ok.lt HRF.out.1 j hj
                rwa [List.getD_eq_getElem?_getD, List.getElem?_eq_getElem hj, Option.getD_some] at this⟩, by simp; omega⟩
            have HN1 : Hid (nearB F.low (F.keys ++ [key]) (eps - 1) = false) := Lib.hid (HR.out.full.near_refused he0 HRF.out.1 HRF.out.2 HR.out.full.ok.low.ok HR.out.full.den_low)
            have HN2 : Hid (2 ≤ F.keys.length → nearB F.top (F.keys ++ [key]) (eps - 1) = false) := Lib.hid (fun h2 => HR.out.full.near_refused he0 HRF.out.1 HRF.out.2 HR.out.full.ok.top.ok (HR.out.full.den_top he0 h2))
            have C1 := hull_Least HX.out.fit
            obtain ⟨K2, hK2⟩ : ∃ K2, F.keys ++ [key] = K2 := ⟨_, rfl⟩
            rw [hK2] at HAL HN1 HN2 ⊢
            have HK2 := Lib.hid hK2
            clear HE HW hc5 hK2
            go_wp2_with fail
            refine C1.mono ?_
            rintro e w6 ⟨rfl, b6⟩
            have HY := Lib.hid (HX.out.below b6)
            have C2 := ref_Near (c := c9) (show NQ w6 F.low K2 (eps - 1) A9 from ⟨HAL.out.1.below b6, HAL.out.2.1, HAL.out.2.2.1, HAL.out.2.2.2, he0, he1, HNT.out.1, by have := HNT.out.2.1; omega, HNT.out.2.2.2.2.1⟩)
            rw [HN1.out] at C2
            clear C1
            go_wp2_with fail
            refine C2.mono ?_
            rintro e w7 ⟨rfl, b7⟩
            have HZ := Lib.hid (HY.out.below b7)
            have HA7 := Lib.hid ((HAL.out.1.below b6).below b7)
            have C3 := hull_Count HZ.out.fit
            clear C2 b6 b7
            go_wp2_with fail
            refine C3.mono ?_
            rintro e w8 ⟨rfl, rfl⟩
            clear C3
            by_cases h2 : 1 < F.keys.length
            · have gg : decide (1 < (F.keys.length : Int)) = true := by simpa using (by omega : 1 < (F.keys.length : Int))
              have gg2 : decide (1 < F.keys.length) = true := by simpa using h2
              have C4 := hull_Most HZ.out.fit
              have h22 := HN2.out (by omega)
              have HH := Lib.hid h22
              clear h22 HN2
              go_wp2_with fail
              refine C4.mono ?_
              rintro e w9 ⟨rfl, b9⟩
              have C5 := ref_Near (c := c9) (show NQ w9 F.top K2 (eps - 1) A9 from ⟨HA7.out.below b9, HAL.out.2.1, HAL.out.2.2.1, HAL.out.2.2.2, he0, he1, HNT.out.2.2.1, by have := HNT.out.2.2.2.1; omega, HNT.out.2.2.2.2.2⟩)
              rw [HH.out] at C5
              have HZ9 := Lib.hid (HZ.out.below b9)
              clear C4
              go_wp2_with fail
              refine C5.mono ?_
              rintro e w10 ⟨rfl, b10⟩
              have HZ10 := Lib.hid (HZ9.out.below b10)
              clear C5 b9 b10
              go_wp2_with fail
              go_roundw
              case rel => exact ⟨i + 1, F, A8, c8, _, by omega, rfl, by go_num, HZ10.out⟩
              case measure => simp [intOf]; omega
            · have gg : decide (1 < (F.keys.length : Int)) = false := by simpa using (by omega : (F.keys.length : Int) ≤ 1)
              have gg2 : decide (1 < F.keys.length) = false := by simpa using h2
              go_wp2_with fail
              go_roundw
              case rel => exact ⟨i + 1, F, A8, c8, _, by omega, rfl, by go_num, HZ.out⟩
              case measure => simp [intOf]; omega
          · have hadd := Fit.add_take hla hlf
            have HFU := Lib.hid (HR.out.full.add he0 hadd)
            obtain ⟨F', hF'⟩ : ∃ F' : Fit, F' = ⟨F.keys ++ [key], F.lowWith (eps - 1) key, F.topWith (eps - 1) key⟩ := ⟨_, rfl⟩
            rw [← hF'] at hadd HFU
            have HK' : Hid (F'.keys = F.keys ++ [key]) := Lib.hid (by rw [hF'])
            have HAD := Lib.hid hadd
            rw [hadd] at AD
            clear hla hlf hadd hF'
            go_wp2_with fail
            refine AD.mono ?_
            rintro e w5 ⟨rfl, S', f1, f2, f3⟩
            rw [HAD.out] at f1
            have HC5 := Lib.hid (And.intro f1 (And.intro f2 f3))
            have HB5 := Lib.hid (below_chg HR.out.bel f2 (fun k _ hk => HR.out.new k hk) HR.out.bel.size)
            have hc5 : w5.cell? ⟨bb, o + i, none⟩ = some (.int .u64 key) := (HB5.out.cell (p := ⟨bb, _, none⟩) hbl).trans ((HR.out.bel.cell (p := ⟨bb, _, none⟩) hbl).symm.trans hcr)
            have HRW := Lib.hid (HR.out.row.chg f2 HR.out.sep)
            clear AD f1 f2 f3 hcr
            go_upto_region 13 with fail
            refine fits_with HRW (by omega) hlt hn hc5 _ _ _ _ _ _ _ _ _ _ _ _ _ _ _ _ _ _ _ _ _ _ _ _ _ _ _ _ _ _ _ _ _ _ _ _ _ _ _ _ _ _ _ _ _ _ _ _ _ _ _ _ _ _ _ _ _ _ _ _ _ _ _ _ _ _ _ _ _ _ _ _ _ _ _ _ _ _ _ _ _ _ _ _ _ _ _ _ _ _ _ _ _ _ _ _ _ _ _ _ _ _ _ _ _ _ _ _ ?_
            intro _ _ _ _ _ _ _ _ _ v wx HW
            rw [← HK'.out] at HW
            obtain ⟨A9, c9, hv⟩ := HW.out.row.val
            subst hv
            have HE := Lib.hid (HR.out.taken HK'.out HFU.out HUK.out h4 HC5.out.1 HC5.out.2.1 HC5.out.2.2 HW.out)
            clear HW hc5 HRW
            go_wp2_with fail
            go_roundw
            case rel => exact ⟨i + 1, F', A9, c9, _, by omega, rfl, by go_num, HE.out⟩
            case measure => simp [intOf]; omega
      · have HE := Lib.hid (And.intro h1 h2)
        by_cases hi2 : i < L.length
        · have g2 : decide (i < L.length) = true := by simpa using hi2
          have g3 : decide ((F.keys.length : Int) < 400) = false := by simpa using (by omega : 400 ≤ (F.keys.length : Int))
          clear hlt
          go_upto_region 18 with fail
          refine fits_end HR (by omega) (by omega) _ _ _ _ _ _ _ _ _ _ _ _ _ _ _ _ _ _ _ _ _ _ _ _ _ _ _ _ _ _ _ _ _ _ _ _ _ _ _ _ _ _ _ _ _ _ _ _ _ _ _ _ _ _ _ _ _ _ _ _ _ _ _ _ _ _ _ _ _ _ _ _ _ _ _ _ _ _ _ _ _ _ _ _ _ _ _ _ _ _ _ _ _ _ _ _ _ _ _ _ _ _ _ _ _ _ _ ?_
          intro _ _ _ _ _ _ _ _ _ _ _ _ _ _ _ _ _ _ _ _ _ _ wx HX
          go_wp2_with fail
          go_ret
          exact ⟨rfl, HX.out⟩
        · have g2 : decide (i < L.length) = false := by simpa using hi2
          clear hlt
          go_upto_region 18 with fail
          refine fits_end HR (by omega) (by omega) _ _ _ _ _ _ _ _ _ _ _ _ _ _ _ _ _ _ _ _ _ _ _ _ _ _ _ _ _ _ _ _ _ _ _ _ _ _ _ _ _ _ _ _ _ _ _ _ _ _ _ _ _ _ _ _ _ _ _ _ _ _ _ _ _ _ _ _ _ _ _ _ _ _ _ _ _ _ _ _ _ _ _ _ _ _ _ _ _ _ _ _ _ _ _ _ _ _ _ _ _ _ _ _ _ _ _ ?_
          intro _ _ _ _ _ _ _ _ _ _ _ _ _ _ _ _ _ _ _ _ _ _ wx HX
          go_wp2_with fail
          go_ret
          exact ⟨rfl, HX.out⟩
end Go.Proofs.Ytanhhgifcolfaaa
