/-
  cut.Ends.
-/
import Derived.Test.YtanhhgifcolfaaaQCuPlain
import Derived.WalkMore
namespace Go.Proofs.Ytanhhgifcolfaaa
open Go.RowKit
set_option linter.unusedVariables false
set_option linter.unusedSimpArgs false

theorem ends_bad (eps : Int) (h : eps < 2 ∨ 64 < eps) (A : Option Addr) (n c : Nat) (w : World) :
    Calls Try.prog 30 #[.slice A n c, .int .i64 eps] w fun e w' => e = .returned (.tuple #[.slice none 0 0, .int .i64 1]) ∧ w = w' := by
  have N1 := fun w => hull_New_bad eps h w
  go_enter Try.func30, Try.ntmps30
  go_wp2
  go_step3
  go_wp2_with fail
  refine (N1 _).mono ?_
  rintro e w1 ⟨rfl, rfl⟩
  go_wp2_with fail
  try rw [Exit.noGoto_ret]
  go_ret2
  exact ⟨rfl, rfl⟩
theorem ends_unsorted (eps : Int) (h1 : 2 ≤ eps) (h2 : eps ≤ 64) (A : Option Addr) (c : Nat) (L : List Int) (hn : L.length ≤ 17592186044416) (hu : ¬ L.Pairwise (· < ·)) (w : World) (hA : ArgU w A L) :
    Calls Try.prog 30 #[.slice A L.length c, .int .i64 eps] w fun e w' => e = .returned (.tuple #[.slice none 0 0, .int .i64 60]) ∧ Below w.heap.size w w' := by
  have N1 := hull_New eps h1 h2 w
  have R := fun (w' : World) (k : Below w.heap.size w w') => Rising_any A c L hn w' (hA.below k)
  rw [decide_eq_false hu] at R
  have HR := Lib.hid R
  clear R h1 h2 hu hn hA
  go_enter Try.func30, Try.ntmps30
  go_wp2
  go_step3
  go_wp2_with fail
  refine N1.mono ?_
  rintro e w1 ⟨rfl, b1, F1⟩
  have R1 := HR.out _ b1
  have HB := Lib.hid b1
  clear N1 HR b1 F1
  go_wp2_with fail
  refine R1.mono ?_
  rintro e w2 ⟨rfl, b2⟩
  go_wp2_with fail
  try rw [Exit.noGoto_ret]
  go_ret2
  exact ⟨rfl, below_next HB.out b2⟩
/-- Where the outer loop stands. -/
def OutAt (w0 : World) (e : Int) (L : List Int) (j b : Nat) (v : Value) (w : World) : Prop :=
  (j < L.length ∧ ∃ outs, Start e L j outs ∧ EM w0 b e Fit.zero v outs w) ∨ (j = L.length ∧ ∃ F, EM w0 b e F v (endsL e L) w)
def OutR (w0 : World) (e : Int) (L : List Int) (g : Nat) (x6 x8 x9 : Value) (w : World) : Prop :=
  ∃ j b, j + g = L.length ∧ x6 = .pointer (some ⟨b, 0, none⟩) ∧ x9 = .int .i64 (j : Int) ∧ Hid (OutAt w0 e L j b x8 w)
/-- Where the inner loop stands. -/
def InAt (w0 : World) (e : Int) (L : List Int) (j i b : Nat) (v : Value) (outs : List Nat) (w : World) : Prop :=
  ∃ F, ((i = j ∧ F = Fit.zero ∧ Start e L j outs) ∨ (j < i ∧ cutS e L i = (outs, F))) ∧ EM w0 b e F v outs w
def InR (w0 : World) (e : Int) (L : List Int) (j b : Nat) (v : Value) (outs : List Nat) (g : Nat) (x6 x8 x9 x10 : Value) (w : World) : Prop :=
  ∃ i : Nat, i + g = L.length ∧ j ≤ i ∧ x6 = .pointer (some ⟨b, 0, none⟩) ∧ x8 = v ∧ x9 = .int .i64 (j : Int) ∧ x10 = .int .i64 (i : Int) ∧ Hid (InAt w0 e L j i b v outs w)
set_option maxHeartbeats 4000000 in
set_option maxRecDepth 100000 in
theorem ends_good (eps : Int) (h1 : 2 ≤ eps) (h2 : eps ≤ 64) (A : Option Addr) (c : Nat) (L : List Int) (hL : U64s L) (hn : L.length ≤ 17592186044416) (hu : L.Pairwise (· < ·)) (w : World) (hA : ArgU w A L) :
    Calls Try.prog 30 #[.slice A L.length c, .int .i64 eps] w fun e w' => ∃ v, e = .returned (.tuple #[v, .int .i64 0]) ∧ Ints w' v (endsL (eps - 1) L) ∧ (∀ g, v.ownBlock = some g → w.heap.size ≤ g) ∧ Below w.heap.size w w' := by
  have N1 := fun w => hull_New eps h1 h2 w
  have R := fun (w' : World) (k : Below w.heap.size w w') => Rising_any A c L hn w' (hA.below k)
  rw [decide_eq_true hu] at R
  have HR := Lib.hid R
  have HU := Lib.hid hL
  have HA := Lib.hid hA
  have HN := Lib.hid hn
  have HE := Lib.hid (And.intro h1 h2)
  obtain ⟨i0, hi, hz0, hz1, hz2⟩ := info_parts infoI
  have HN1 := Lib.hid N1
  clear R h1 h2 hu hn hA hL N1
  go_enter Try.func30, Try.ntmps30
  go_wp2
  go_step3
  go_wp2_with fail
  refine (HN1.out w).mono ?_
  rintro e w1 ⟨rfl, b1, F1⟩
  have R1 := HR.out _ b1
  have HB := Lib.hid (And.intro b1 F1)
  clear HR b1 F1
  go_wp2_with fail
  refine R1.mono ?_
  rintro e w2 ⟨rfl, b2⟩
  have ST : Hid (OutAt w (eps - 1) L 0 w.heap.size (.slice none 0 0) w2) := Lib.hid (by
    have E0 : EM w w.heap.size (eps - 1) Fit.zero (.slice none 0 0) [] w2 := ⟨_, HB.out.2.below b2, World.ownsRow_nil _ _ _ _, fun g hg => by simp [Value.ownBlock] at hg, fun k hk => by omega, below_next HB.out.1 b2⟩
    by_cases h0 : L.length = 0
    · exact .inr ⟨h0.symm, Fit.zero, by rw [endsL, if_pos h0]; exact E0⟩
    · exact .inl ⟨by omega, [], Start.zero (by have := HE.out; omega) L, E0⟩)
  clear R1 HB b2
  go_wp2_with fail
  go_step3
  go_wp2_with fail
  go_loopg [6, 8, 9] L.length (fun g x6 x8 x9 wx => OutR w (eps - 1) L g x6 x8 x9 wx)
  case atStart => exact ⟨0, w.heap.size, by omega, rfl, rfl, ST.out⟩
  case round =>
    obtain ⟨j, b, hj, rfl, rfl, HO⟩ := hrel
    have hN := HN.out
    by_cases hlt : j < L.length
    · rcases HO.out with ⟨_, outs, hst, hem⟩ | ⟨hjj, _⟩
      · have HS := Lib.hid (And.intro hst hem)
        have HJ := Lib.hid hj
        obtain ⟨go, hgo⟩ : ∃ go, gk = go := ⟨_, rfl⟩
        have HG := Lib.hid hgo
        obtain ⟨wo, hwo⟩ : ∃ wo : World, wo = wr := ⟨_, rfl⟩
        have HIL : Hid (outs.length + 1 ≤ L.length) := Lib.hid (by
          have := cutS_len (e := eps - 1) (by have := HE.out; omega) L j
          rw [Start] at hst; rw [hst] at this; have k : outs.length ≤ j := this; omega)
        have IN : Hid (InAt w (eps - 1) L j j b u8 outs wr) := Lib.hid ⟨Fit.zero, .inl ⟨rfl, rfl, hst⟩, hem⟩
        subst hwo
        have HLT := Lib.hid hlt
        have HJN := Lib.hid (show j + go = L.length by omega)
        clear HO hst hem HS hj hgo
        go_wp2_with fail
        go_loopg [6, 8, 9, 10] (L.length - j) (fun g x6 x8 x9 x10 wx => InR w (eps - 1) L j b u8 outs g x6 x8 x9 x10 wx)
        case atStart => exact ⟨j, by omega, by omega, rfl, rfl, rfl, rfl, IN.out⟩
        case round =>
          obtain ⟨i, hi2, hji, rfl, rfl, rfl, rfl, HI⟩ := hrel
          have ho : outs.length + 1 ≤ L.length := HIL.out
          by_cases hli : i < L.length
          · obtain ⟨F, hcase, hem⟩ := HI.out
            obtain ⟨bb, o, rfl, hbl, hc0⟩ := HA.out.at hli
            have hku := HU.out.at hli
            obtain ⟨key, hkey⟩ : ∃ key, L[i] = key := ⟨_, rfl⟩
            have hkd : L.getD i 0 = key := by rw [List.getD_eq_getElem?_getD, List.getElem?_eq_getElem hli, Option.getD_some, hkey]
            rw [hkey] at hc0 hku
            obtain ⟨⟨⟨t, cc⟩, F'⟩, hadd⟩ : ∃ r, F.add (eps - 1) key = r := ⟨_, rfl⟩
            have hFl : F.keys.length ≤ i := by
              rcases hcase with ⟨_, rfl, _⟩ | ⟨_, hc⟩
              · simp [Fit.zero]
              · have := cutS_keys (e := eps - 1) L i; rw [hc] at this; exact this
            have AD := hem.add hadd hku (by omega)
            have hc : wr.cell? ⟨bb, o + i, none⟩ = some (.int .u64 key) := (hem.bel.cell (p := ⟨bb, _, none⟩) hbl).trans hc0
            have HLI := Lib.hid (And.intro hi2 hji)
            have HC := Lib.hid (And.intro hcase (And.intro hadd hkd))
            clear hcase hem hkey hkd hFl hc0 hadd HI
            go_wp2_with fail
            refine AD.mono ?_
            rintro e5 w5 ⟨rfl, M5⟩
            have HM5 := Lib.hid M5
            clear AD hc M5
            cases t with
            | true =>
              have NX : Hid (InAt w (eps - 1) L j (i + 1) b u8 outs w5) := Lib.hid (by
                obtain ⟨hcase, hadd, hkd⟩ := HC.out
                refine ⟨F', .inr ⟨by omega, ?_⟩, HM5.out⟩
                rcases hcase with ⟨rfl, rfl, hs⟩ | ⟨_, hs⟩
                · rw [Start, hkd, hadd] at hs; exact hs
                · have := cutS_go hs (by rw [hkd, hadd]); rw [hkd, hadd] at this; exact this)
              clear hi2 hji
              go_wp2_with fail
              go_roundg (L.length - (i + 1))
              case rel => exact ⟨i + 1, by have := HLI.out; omega, by have := HLI.out; omega, rfl, rfl, rfl, by go_num, NX.out⟩
              case measure => have := HLI.out; omega
            | false =>
              have NX : Hid (j < i ∧ Start (eps - 1) L i (outs ++ [i])) := Lib.hid (by
                obtain ⟨hcase, hadd, hkd⟩ := HC.out
                rcases hcase with ⟨_, rfl, _⟩ | ⟨hji, hs⟩
                · have := Fit.add_zero (e := eps - 1) (by have := HE.out; omega) key; rw [hadd] at this; simp at this
                · exact ⟨hji, Start.next hs (by rw [hkd, hadd])⟩)
              clear hi2 hji
              have NW := HN1.out w5
              go_wp2_with fail
              refine NW.mono ?_
              rintro e6 w6 ⟨rfl, b6, F6⟩
              have HEM := Lib.hid (HM5.out.fresh b6 F6 (fun i hi => by omega))
              have HO1 : Hid ((w6.alloc (.cells #[.int .i64 (i : Int)] 3)).ownsRow 0 3 1 u8 outs.length (outs.map (fun (n : Nat) => Value.int .i64 (n : Int)))) := Lib.hid (own_chg HEM.out.ints.1 ((Chg.refl (fun _ => False) w6).alloc _) (fun _ _ h => h))
              have HFO : Hid (∀ u ∈ ([.int .i64 (i : Int)] : List Value), u.oneCell' = true) := Lib.hid (by intro u hu; simp at hu; rcases hu with rfl; rfl)
              clear NW b6 F6
              go_wp2_with (at_builtin; go_loud (refine wpList_append_lies _ rfl (.tmp 53) (.tmp 55) 52 (by rfl) 0 3 i0 _ 1 8 Try.underlying52 hi hz0 hz1 hz2 rfl (by omega) u8 outs.length (outs.map (fun (n : Nat) => Value.int .i64 (n : Int))) (by rfl) HO1.out ⟨w6.heap.size, 0, none⟩ 1 1 [.int .i64 (i : Int)] (by rfl) (by rfl) (World.news_of_block (Blk.new w6 3 #[.int .i64 (i : Int)])) HFO.out (by omega) (by unfold maxLen; omega) (by omega) (Nat.zero_le _) (w6.heap.size + 1) (by simp) ?_; intro gn capn wn hown hgr hat hltn; have HG2 := Lib.hid (HEM.out.grown hown hgr hat); clear hown hgr hat hltn))
              go_roundg (L.length - i)
              case rel => exact ⟨i, _, by omega, rfl, rfl, Lib.hid (.inl ⟨hli, _, NX.out.2, HG2.out⟩)⟩
              case measure => have := NX.out.1; have := HLI.out; have := HJN.out; have := HG.out; omega
          · have hil : i = L.length := by omega
            subst hil
            have FN : Hid (∃ F, EM w b (eps - 1) F u8 outs wr ∧ endsL (eps - 1) L = outs ++ [L.length]) := Lib.hid (by
              obtain ⟨F, hcase, hem⟩ := HI.out
              rcases hcase with ⟨h, _⟩ | ⟨_, hs⟩
              · have := HLT.out; omega
              · exact ⟨F, hem, endsL_of (by have := HLT.out; omega) hs⟩)
            obtain ⟨F, hem, hends⟩ := FN.out
            have HEM := Lib.hid hem
            have HEN := Lib.hid hends
            have HO1 : Hid ((wr.alloc (.cells #[.int .i64 (L.length : Int)] 3)).ownsRow 0 3 1 u8 outs.length (outs.map (fun (n : Nat) => Value.int .i64 (n : Int)))) := Lib.hid (own_chg HEM.out.ints.1 ((Chg.refl (fun _ => False) wr).alloc _) (fun _ _ h => h))
            have HFO : Hid (∀ u ∈ ([.int .i64 (L.length : Int)] : List Value), u.oneCell' = true) := Lib.hid (by intro u hu; simp at hu; rcases hu with rfl; rfl)
            clear hem hends FN HI hji hi2
            go_wp2_with (at_builtin; go_loud (refine wpList_append_lies _ rfl (.tmp 58) (.tmp 61) 52 (by rfl) 0 3 i0 _ 1 8 Try.underlying52 hi hz0 hz1 hz2 rfl (by omega) u8 outs.length (outs.map (fun (n : Nat) => Value.int .i64 (n : Int))) (by rfl) HO1.out ⟨wr.heap.size, 0, none⟩ 1 1 [.int .i64 (L.length : Int)] (by rfl) (by rfl) (World.news_of_block (Blk.new wr 3 #[.int .i64 (L.length : Int)])) HFO.out (by omega) (by unfold maxLen; omega) (by omega) (Nat.zero_le _) (wr.heap.size + 1) (by simp) ?_; intro gn capn wn hown hgr hat hltn; have HG2 := Lib.hid (HEM.out.grown hown hgr hat); clear hown hgr hat hltn))
            go_roundg 0
            case rel => exact ⟨L.length, _, by omega, rfl, rfl, Lib.hid (.inr ⟨rfl, F, by rw [HEN.out]; exact HG2.out⟩)⟩
            case measure => have := HLT.out; have := HJN.out; have := HG.out; omega
      · omega
    · have hjl : j = L.length := by omega
      have HF : Hid (∃ F, EM w b (eps - 1) F u8 (endsL (eps - 1) L) wr) := Lib.hid (by
        rcases HO.out with ⟨h, _⟩ | ⟨_, F, h⟩
        · omega
        · exact ⟨F, h⟩)
      clear hjl hj
      go_wp2_with fail
      try rw [Exit.noGoto_ret]
      go_ret2
      obtain ⟨F, h⟩ := HF.out
      exact ⟨_, rfl, h.ints.1, h.ints.2, h.bel⟩
end Go.Proofs.Ytanhhgifcolfaaa
