/-
  The law HullRuns: key by key the program's fit answers as the reference's.
-/
import Derived.Test.YtanhhgifcolfaaaQHuMade
namespace Go.Proofs.Ytanhhgifcolfaaa
open Go.RowKit
set_option linter.unusedVariables false
set_option linter.unusedSimpArgs false

/-- Two fits side by side, and the pair of pointers to them in a block of its own. -/
def PairB (w0 : World) (b1 b2 g : Nat) (e : Int) (Fa Fb : Fit) (w : World) : Prop :=
  ∃ S T, FitO w b1 e Fa S ∧ RefO w b2 e Fb T ∧ (∀ k, S k → ¬ T k) ∧ (∀ k, S k → w0.heap.size ≤ k) ∧ (∀ k, T k → w0.heap.size ≤ k) ∧ Below w0.heap.size w0 w ∧ ¬ S g ∧ ¬ T g ∧ Blk w g 27 #[.pointer (some ⟨b1, 0, none⟩), .pointer (some ⟨b2, 0, none⟩)]
section
variable {w0 w w' : World} {b1 b2 g : Nat} {e : Int} {Fa Fb : Fit}
theorem PairB.two (h : PairB w0 b1 b2 g e Fa Fb w) : Pair2 w0 b1 b2 e Fa Fb w := by
  obtain ⟨S, T, h1, h2, h3, h4, h5, h6, _⟩ := h; exact ⟨S, T, h1, h2, h3, h4, h5, h6⟩
theorem PairB.box (h : PairB w0 b1 b2 g e Fa Fb w) : Blk w g 27 #[.pointer (some ⟨b1, 0, none⟩), .pointer (some ⟨b2, 0, none⟩)] := by
  obtain ⟨S, T, h1, h2, h3, h4, h5, h6, _, _, h⟩ := h; exact h
theorem PairB.bel (h : PairB w0 b1 b2 g e Fa Fb w) : Below w0.heap.size w0 w := h.two.bel
theorem PairB.below (h : PairB w0 b1 b2 g e Fa Fb w) (k : Below w.heap.size w w') : PairB w0 b1 b2 g e Fa Fb w' := by
  obtain ⟨S, T, h1, h2, h3, h4, h5, h6, h7, h8, h9⟩ := h
  exact ⟨S, T, h1.below k, h2.below k, h3, h4, h5, below_next h6 k, h7, h8, h9.below k⟩
theorem Pair2.boxed (h : Pair2 w0 b1 b2 e Fa Fb w) : PairB w0 b1 b2 w.heap.size e Fa Fb (w.alloc (.cells #[.pointer (some ⟨b1, 0, none⟩), .pointer (some ⟨b2, 0, none⟩)] 27)) := by
  have h0 := h.below (below_new (Below.refl _ _) (.cells #[.pointer (some ⟨b1, 0, none⟩), .pointer (some ⟨b2, 0, none⟩)] 27))
  obtain ⟨S, T, h1, h2, h3, h4, h5, h6⟩ := h
  have l1 := h1.lt
  have l2 := h2.lt
  have k := below_new (Below.refl w.heap.size w) (.cells #[.pointer (some ⟨b1, 0, none⟩), .pointer (some ⟨b2, 0, none⟩)] 27)
  exact ⟨S, T, h1.below k, h2.below k, h3, h4, h5, below_next h6 k, fun hs => by have := l1 _ hs; omega, fun hs => by have := l2 _ hs; omega, Blk.new _ _ _⟩
theorem PairB.add1 (h : PairB w0 b1 b2 g e Fa Fb w) {key : Int} (hk : u64ok key) (big : Fa.keys.length < 17592186044416) :
    Calls Try.prog 17 #[.pointer (some ⟨b1, 0, none⟩), .int .u64 key] w fun e' w' => e' = .returned (.tuple #[.bool (Fa.add e key).1.1, .int .i64 (Fa.add e key).1.2]) ∧ PairB w0 b1 b2 g e (Fa.add e key).2 Fb w' := by
  obtain ⟨S, T, h1, h2, h3, h4, h5, h6, h7, h8, h9⟩ := h
  have lt2 := h2.lt
  refine (hull_AddO key hk big h1).mono ?_
  rintro e' w' ⟨rfl, S', f1, f2, f3⟩
  refine ⟨rfl, S', T, f1, h2.chg f2 (fun i hi hs => h3 i hs hi), fun k hs ht => ?_, fun k hs => ?_, h5, below_chg h6 f2 (fun k _ hk => h4 k hk) h6.size, fun hs => ?_, h8, h9.chg f2 h7⟩
  · rcases f3 k hs with m | m
    · exact h3 k m ht
    · have := lt2 k ht; omega
  · rcases f3 k hs with m | m
    · exact h4 k m
    · have := h6.size; omega
  · rcases f3 g hs with m | m
    · exact h7 m
    · have := h9.lt; omega
theorem PairB.add2 (h : PairB w0 b1 b2 g e Fa Fb w) {key : Int} (hk : u64ok key) (big : Fb.keys.length < 17592186044416) :
    Calls Try.prog 18 #[.pointer (some ⟨b2, 0, none⟩), .int .u64 key] w fun e' w' => e' = .returned (.tuple #[.bool (Fb.add e key).1.1, .int .i64 (Fb.add e key).1.2]) ∧ PairB w0 b1 b2 g e Fa (Fb.add e key).2 w' := by
  obtain ⟨S, T, h1, h2, h3, h4, h5, h6, h7, h8, h9⟩ := h
  have lt1 := h1.lt
  refine (ref_AddO key hk big h2).mono ?_
  rintro e' w' ⟨rfl, T', f1, f2, f3⟩
  refine ⟨rfl, S, T', h1.chg f2 (fun i hi ht => h3 i hi ht), f1, fun k hs ht => ?_, h4, fun k ht => ?_, below_chg h6 f2 (fun k _ hk => h5 k hk) h6.size, h7, fun ht => ?_, h9.chg f2 h8⟩
  · rcases f3 k ht with m | m
    · exact h3 k hs m
    · have := lt1 k hs; omega
  · rcases f3 k ht with m | m
    · exact h5 k m
    · have := h6.size; omega
  · rcases f3 g ht with m | m
    · exact h8 m
    · have := h9.lt; omega
end
theorem PairB.add1' {w0 w : World} {b1 b2 g : Nat} {e : Int} {Fa Fb F' : Fit} {key c : Int} {t : Bool} (h : PairB w0 b1 b2 g e Fa Fb w) (hp : Fa.add e key = ((t, c), F')) (hk : u64ok key) (big : Fa.keys.length < 17592186044416) :
    Calls Try.prog 17 #[.pointer (some ⟨b1, 0, none⟩), .int .u64 key] w.drew fun e' w' => e' = .returned (.tuple #[.bool t, .int .i64 c]) ∧ PairB w0 b1 b2 g e F' Fb w' := by
  have := (h.below (Below.refl _ _).drew).add1 hk big
  rw [hp] at this; exact this
theorem PairB.add2' {w0 w : World} {b1 b2 g : Nat} {e : Int} {Fa Fb F' : Fit} {key c : Int} {t : Bool} (h : PairB w0 b1 b2 g e Fa Fb w) (hp : Fb.add e key = ((t, c), F')) (hk : u64ok key) (big : Fb.keys.length < 17592186044416) :
    Calls Try.prog 18 #[.pointer (some ⟨b2, 0, none⟩), .int .u64 key] w.drew fun e' w' => e' = .returned (.tuple #[.bool t, .int .i64 c]) ∧ PairB w0 b1 b2 g e Fa F' w' := by
  have := (h.below (Below.refl _ _).drew).add2 hk big
  rw [hp] at this; exact this
theorem Fit.add_len {F : Fit} {e key : Int} : (F.add e key).2.keys.length ≤ F.keys.length + 1 := by
  unfold Fit.add
  split
  · simp
  · split
    · simp
    · simp
structure RunsAt (w : World) (b1 b2 g : Nat) (e : Int) (L : List Int) (i : Nat) (F : Fit) (wr : World) : Prop where
  hi : i ≤ L.length
  hn : F.keys.length ≤ 400
  p : PairB w b1 b2 g e F F wr
def RunsTo (w : World) (b1 b2 g : Nat) (e : Int) (L : List Int) (x : Value) (wr : World) : Prop := ∃ (i : Nat) (F : Fit), x = .int .i64 i ∧ RunsAt w b1 b2 g e L i F wr
set_option maxHeartbeats 4000000 in
set_option maxRecDepth 100000 in
theorem runs_walk (eps : Int) (A : Option Addr) (c : Nat) (L : List Int) (hL : U64s L) (hn : L.length ≤ 17592186044416) (w : World) (hA : ArgU w A L) :
    Calls Try.prog 3 #[.int .i64 eps, .slice A L.length c] w fun e w' => e = .returned (.bool true) ∧ Below w.heap.size w w' := by
  have SH := shown_any w
  have HU := Lib.hid hL
  have HA := Lib.hid hA
  have HN := Lib.hid hn
  clear hL hA hn
  by_cases hb : eps < 2 ∨ 64 < eps
  · have NB := fun w => made_bad eps hb w
    clear hb
    go_enter Try.func3, Try.ntmps3
    go_wp2_with fail
    refine SH.mono ?_
    rintro e w1 ⟨rfl, b1⟩
    go_wp2_with fail
    refine (NB w1).mono ?_
    rintro e w2 ⟨rfl, b2⟩
    go_wp2_with fail
    go_ret
    exact ⟨rfl, below_new (below_next b1 b2) _⟩
  · have N := fun w => made_good eps (by omega) (by omega) w
    have HE := Lib.hid hb
    clear hb
    go_enter Try.func3, Try.ntmps3
    go_wp2_with fail
    refine SH.mono ?_
    rintro e w1 ⟨rfl, k1⟩
    go_wp2_with fail
    refine (N w1).mono ?_
    rintro e w2 ⟨b1, b2, rfl, P2⟩
    have HM := Lib.hid ((P2.base k1).boxed)
    clear SH N P2
    go_wp2_with fail
    generalize w2.heap.size = g at *
    go_loopw [9] (fun x wr => RunsTo w b1 b2 g (eps - 1) L x wr) (fun x _ => L.length - (intOf x).toNat)
    case atStart => exact ⟨0, Fit.zero, rfl, by omega, by simp [Fit.zero], HM.out⟩
    case round =>
      obtain ⟨i, F, rfl, R⟩ := hrel
      have HR := Lib.hid R
      have hi := R.hi
      have HNo := HN.out
      have C2 := R.p.two.count2
      have x0 : wr.cell? ⟨g, 0, none⟩ = some (.pointer (some ⟨b1, 0, none⟩)) := R.p.box.cell 0
      have x1 : wr.cell? ⟨g, 1, none⟩ = some (.pointer (some ⟨b2, 0, none⟩)) := R.p.box.cell 1
      clear R
      by_cases hlt : i < L.length
      · obtain ⟨bb, o, rfl, hbl, hc0⟩ := HA.out.at hlt
        have hu := HU.out.at hlt
        obtain ⟨key, hkey⟩ : ∃ key, L[i] = key := ⟨_, rfl⟩
        rw [hkey] at hc0 hu
        have HC := Lib.hid (And.intro hbl hc0)
        have HUk := Lib.hid hu
        clear hkey hu hc0
        go_wp2_with fail
        refine C2.mono ?_
        rintro e w3 ⟨rfl, rfl⟩
        clear C2
        by_cases hm : (F.keys.length : Int) < 400
        · have g1 : decide ((F.keys.length : Int) < 400) = true := by simpa using hm
          have hcr : wr.cell? ⟨bb, o + i, none⟩ = some (.int .u64 key) := (HR.out.p.bel.cell (p := ⟨bb, _, none⟩) HC.out.1).trans HC.out.2
          have hcd : wr.drew.cell? ⟨bb, o + i, none⟩ = some (.int .u64 key) := hcr
          have hi9 : (i : Int) ≤ 17592186044416 := by omega
          have HM4 := Lib.hid hm
          obtain ⟨⟨⟨t, cc⟩, F'⟩, hadd⟩ : ∃ r, F.add (eps - 1) key = r := ⟨_, rfl⟩
          have A1 := HR.out.p.add1' (w := wr) hadd HUk.out (by omega)
          have A2 := fun (w' : World) (P : PairB w b1 b2 g (eps - 1) F' F w') => P.add2' hadd HUk.out (by omega)
          have HA2 := Lib.hid A2
          have HAD := Lib.hid hadd
          have HLT := Lib.hid hlt
          have S0 : Hid (wr.drew.cell? ⟨g, 0, none⟩ = some (.pointer (some ⟨b1, 0, none⟩)) ∧ wr.drew.cell? ⟨bb, o + i, none⟩ = some (.int .u64 key)) := Lib.hid ⟨x0, hcr⟩
          clear A2 hadd x0 x1 hcd hcr
          go_upto_region 10 with fail
          go_region_held3 (fun w' => w'.cell? ⟨g, 0, none⟩ = some (.pointer (some ⟨b1, 0, none⟩)) ∧ w'.cell? ⟨bb, o + i, none⟩ = some (.int .u64 key))
            (first | exact S0.out | exact ⟨HP1.out.box.cell 0, (HP1.out.bel.cell (p := ⟨bb, _, none⟩) HC.out.1).trans HC.out.2⟩)
            (first | (go_at_call 17; refine A1.mono ?_; rintro e w5 ⟨rfl, P1⟩; have HP1 := Lib.hid P1; clear P1))
          have A2 := HA2.out _ HP1.out
          have S1 : Hid (w5.drew.cell? ⟨g, 1, none⟩ = some (.pointer (some ⟨b2, 0, none⟩)) ∧ w5.drew.cell? ⟨bb, o + i, none⟩ = some (.int .u64 key)) := Lib.hid ⟨HP1.out.box.cell 1, (HP1.out.bel.cell (p := ⟨bb, _, none⟩) HC.out.1).trans HC.out.2⟩
          clear A1 HA2 S0
          go_wp2_with fail
          go_region_held3 (fun w' => w'.cell? ⟨g, 1, none⟩ = some (.pointer (some ⟨b2, 0, none⟩)) ∧ w'.cell? ⟨bb, o + i, none⟩ = some (.int .u64 key))
            (first | exact S1.out | exact ⟨HP2.out.box.cell 1, (HP2.out.bel.cell (p := ⟨bb, _, none⟩) HC.out.1).trans HC.out.2⟩)
            (first | (go_at_call 18; refine A2.mono ?_; rintro e w6 ⟨rfl, P2⟩; have HP2 := Lib.hid P2; clear P2))
          have AL := alike_any HP2.out.two
          obtain ⟨p0, p1, _, _⟩ := HP2.out.box.cells2
          clear A2 S1 HP1
          go_wp2_with fail
          refine AL.mono ?_
          rintro e w7 ⟨rfl, b7⟩
          have HP7 := Lib.hid (HP2.out.below b7)
          have hlen : Hid (F'.keys.length ≤ 400) := Lib.hid (by have := Fit.add_len (F := F) (e := eps - 1) (key := key); rw [HAD.out] at this; have k : F'.keys.length ≤ F.keys.length + 1 := this; have := HM4.out; omega)
          clear AL p0 p1 b7
          go_wp2_with fail
          go_roundw
          case rel => exact ⟨i + 1, F', by go_num, by omega, hlen.out, HP7.out⟩
          case measure => simp [intOf]; omega
        · have g1 : decide ((F.keys.length : Int) < 400) = false := by simpa using hm
          go_wp2_with fail
          go_ret
          exact ⟨rfl, HR.out.p.bel⟩
      · have g2 : decide (i < L.length) = false := by simpa using hlt
        clear C2
        go_wp2_with fail
        go_ret
        exact ⟨rfl, HR.out.p.bel⟩
end Go.Proofs.Ytanhhgifcolfaaa
