/-
  The law CutComes.
-/
import Derived.Test.YtanhhgifcolfaaaCuComeA
namespace Go.Proofs.Ytanhhgifcolfaaa
open Go.RowKit
set_option linter.unusedVariables false
set_option linter.unusedSimpArgs false

set_option maxHeartbeats 8000000 in
set_option maxRecDepth 100000 in
theorem comes_walk (A : Option Addr) (c : Nat) (L : List Int) (hL : U64s L) (hn : L.length ≤ 17592186044416) (hcap : L.length ≤ c) (eps : Int) (at' : Int) (hat : -9223372036854775808 ≤ at' ∧ at' ≤ 9223372036854775807) (w : World) (hA : ArgU w A L) :
    Calls Try.prog 12 #[.slice A L.length c, .int .i64 eps, .int .i64 at'] w fun e w' => e = .returned (.bool true) ∧ Below w.heap.size w w' := by
  have SH := cshown_any w
  have HR := Lib.hid (fun (w' : World) (k : Below w.heap.size w w') => right_any eps A c L hL hn w' (hA.below k))
  have HEn := Lib.hid (fun (h : Good eps L) (w' : World) (k : Below w.heap.size w w') => ends_arg eps h.1 h.2.1 A c L hL hn h.2.2 w' (hA.below k))
  have HN := Lib.hid hn
  have HU := Lib.hid hL
  have HA := Lib.hid hA
  have HC := Lib.hid hcap
  have HAT := Lib.hid hat
  obtain ⟨i0, hi, hz0, hz1, hz2⟩ := info_parts infoI
  clear hL hA hn hcap hat
  go_enter Try.func12, Try.ntmps12
  go_wp2_with fail
  refine SH.mono ?_
  rintro e w1 ⟨rfl, b1⟩
  have R1 := HR.out _ b1
  have HB1 := Lib.hid b1
  clear SH HR b1
  go_wp2_with fail
  refine R1.mono ?_
  rintro e w2 ⟨t, rfl, ht, b2⟩
  have HB2 := Lib.hid (below_next HB1.out b2)
  have HT := Lib.hid ht
  clear R1 HB1 b2 ht
  cases t with
  | false =>
    go_wp2_with fail
    go_ret
    exact ⟨rfl, HB2.out⟩
  | true =>
    have HG := Lib.hid (HT.out.1 rfl)
    clear HT
    by_cases h0 : L.length = 0
    · have g0 : ((L.length : Int) == 0) = true := by simp [h0]
      clear h0
      go_wp2_with fail
      go_ret
      exact ⟨rfl, HB2.out⟩
    · have g0 : ((L.length : Int) == 0) = false := beq_eq_false_iff_ne.2 (by omega)
      have H0 := Lib.hid h0
      go_upto_if 47 with fail
      go_cut [2] (fun x2 wx => x2 = .int .i64 (atIn at') ∧ w2 = wx)
      case first =>
        have hatb := HAT.out
        by_cases hneg : at' < 0
        · have g1 : decide (at' < 0) = true := by simpa using hneg
          have u1 : IntKind.i64.wrap (at' + 1) = at' + 1 := IntWalk.i64_in _ (by omega)
          have u2 : IntKind.i64.wrap (-(at' + 1)) = -(at' + 1) := IntWalk.i64_in _ (by omega)
          have E : Hid (-(at' + 1) = atIn at') := Lib.hid (by unfold atIn; rw [if_pos hneg])
          go_wp2_with fail
          go_meet
          case rel => exact ⟨by rw [← E.out], rfl⟩
        · have g1 : decide (at' < 0) = false := by simpa using hneg
          have E : Hid (at' = atIn at') := Lib.hid (by unfold atIn; rw [if_neg hneg])
          go_wp2_with fail
          go_meet
          case rel => exact ⟨by rw [← E.out], rfl⟩
      case rest =>
        obtain ⟨rfl, rfl⟩ := hcut
        have hq := atIn_ok HAT.out
        obtain ⟨q, hqq⟩ : ∃ q, atIn at' = q := ⟨_, rfl⟩
        rw [hqq] at hq ⊢
        obtain ⟨hq0, hq1⟩ := hq
        have tm : q.tmod (L.length : Int) = q % (L.length : Int) := Int.tmod_eq_emod_of_nonneg hq0
        obtain ⟨K, hK⟩ : ∃ K : Nat, (K : Int) = 1 + q % (L.length : Int) := ⟨(1 + q % (L.length : Int)).toNat, by have := Int.emod_nonneg q (show (L.length : Int) ≠ 0 by omega); omega⟩
        have m1 := Int.emod_nonneg q (show (L.length : Int) ≠ 0 by omega)
        have m2 := Int.emod_lt_of_pos q (show (0 : Int) < L.length by omega)
        have hNn := HN.out
        have hCc := HC.out
        have hK1 : 1 ≤ K := by omega
        have hK2 : K ≤ L.length := by omega
        have hK3 : 1 + q % (L.length : Int) = (K : Int) := hK.symm
        have u3 : IntKind.i64.wrap (1 + q % (L.length : Int)) = (K : Int) := by rw [hK3]; exact IntWalk.i64_in _ (by omega)
        have E1 := HEn.out HG.out w2 HB2.out
        have E2 := Lib.hid (fun (w' : World) (k : Below w.heap.size w w') => ends_arg eps HG.out.1 HG.out.2.1 A c (L.take K) (HU.out.take K) (by rw [List.length_take]; omega) (HG.out.2.2.sublist (List.take_sublist _ _)) w' ((HA.out.below k).take K))
        have hlt : (L.take K).length = K := by rw [List.length_take]; omega
        rw [hlt] at E2
        obtain ⟨l, hl⟩ : ∃ l, l = endsL (eps - 1) L := ⟨_, rfl⟩
        have HL0 : Hid (∃ O R, l = O ++ R ∧ (∀ o ∈ O, o < K) ∧ (∀ r ∈ R, K ≤ r) ∧ endsL (eps - 1) (L.take K) = O ++ [K]) := Lib.hid (by rw [hl]; exact come1 (e := eps - 1) (L := L) (k := K) (by omega) hK2)
        have HLL : Hid (l.length ≤ L.length) := Lib.hid (by rw [hl]; exact endsL_len (e := eps - 1) (by have := HG.out.1; omega) L)
        have HNE : Hid (0 < l.length) := Lib.hid (by rw [hl, endsL, if_neg h0]; simp)
        have HC2 : Hid (∀ idx (h : idx < l.length), l[idx] ≤ L.length ∧ endsL (eps - 1) (L.drop l[idx]) = (l.drop (idx + 1)).map (· - l[idx])) := Lib.hid (by
          subst hl
          intro idx h
          refine ⟨?_, come2 (by have := HG.out.1; omega) (by omega) h⟩
          obtain ⟨outs, hends, hs, hf, hlen⟩ := few (e := eps - 1) (by have := HG.out.1; omega) HG.out.2.2 (by omega)
          have h' := h
          simp only [hends] at h' ⊢
          exact (few_at hs (by have := HG.out.1; omega) hf h').2.2.1)
        have HUP : Hid (∀ i j (h1 : i < j) (h : j < l.length), l[i]'(by omega) ≤ l[j]) := Lib.hid (by
          obtain ⟨outs, hends, hs, hf, hlen⟩ := few (e := eps - 1) (by have := HG.out.1; omega) HG.out.2.2 (by omega)
          rw [hends] at hl
          subst hl
          intro i j hij hj
          induction j with
          | zero => omega
          | succ j ih =>
            have hc := few_at hs (by have := HG.out.1; omega) hf hj
            have hp := (few_at hs (by have := HG.out.1; omega) hf (show j < _ by omega)).2.2.2
            rw [hp] at hc
            by_cases he : i = j
            · subst he; exact Nat.le_of_lt hc.1
            · exact Nat.le_trans (ih (by omega) (by omega)) (Nat.le_of_lt hc.1))
        rw [← hl] at E1
        have HKK := Lib.hid (And.intro hK1 hK2)
        clear hqq m1 m2 hK hlt HEn hl
        go_wp2_with fail
        refine E1.mono ?_
        rintro e w3 ⟨A3, c3, rfl, N3, b3⟩
        have H3 := Lib.hid (And.intro N3 (below_next HB2.out b3))
        have E2' := E2.out w3 H3.out.2
        clear E1 E2 N3 b3
        have hl9 : l.length ≤ 17592186044416 := by have := HLL.out; omega
        have k0 : (0 : Int) ≤ (K : Int) := by omega
        have k1 : (K : Int) ≤ (c : Int) := by omega
        have k2 : ((K : Int)).toNat = K := by omega
        go_wp2_with fail
        refine E2'.mono ?_
        rintro e w4 ⟨A4, c4, rfl, N4, b4⟩
        have H4 := Lib.hid (And.intro (H3.out.1.below b4) (And.intro N4 (below_next H3.out.2 b4)))
        have HS := Lib.hid (Ns.empty (Below.refl w4.heap.size w4))
        clear E2' N4 b4 H3 k0 k1 k2 tm hK3 u3
        go_upto_block 0 with fail
        go_cut [15] (fun x15 wx => ∃ i : Nat, i ≤ l.length ∧ Hid (Ns w4 x15 (l.take i) wx) ∧ Hid (endsL (eps - 1) (L.take K) = l.take i ++ [K]))
        case first =>
          go_wp2_with fail
          go_loopw [15, 16] (fun x15 x16 wr => ∃ i : Nat, i ≤ l.length ∧ x16 = .int .i64 i ∧ Hid (∀ j (h : j < i) (h2 : j < l.length), l[j] < K) ∧ Hid (Ns w4 x15 (l.take i) wr)) (fun _ x _ => l.length - (intOf x).toNat)
          case atStart => exact ⟨0, by omega, rfl, Lib.hid (fun j h => by omega), HS⟩
          case round =>
            obtain ⟨i, hi2, rfl, HJ, HV⟩ := hrel
            have hil : (l.take i).length = i := by rw [List.length_take]; omega
            have HIL := Lib.hid hil
            by_cases hlt : i < l.length ∧ ∃ h : i < l.length, l[i] < K
            · obtain ⟨hlt, _, hlk⟩ := hlt
              obtain ⟨lb, lo, rfl, hlb, hlc⟩ := (H4.out.1.below HV.out.2.2).at hlt
              obtain ⟨a, ha⟩ : ∃ a, l[i] = a := ⟨_, rfl⟩
              rw [ha] at hlk hlc
              have g1 : decide ((a : Int) < (K : Int)) = true := by simp; omega
              have HJ2 : Hid (∀ j (h : j < i + 1) (h2 : j < l.length), l[j] < K) := Lib.hid (fun j h h2 => by
                by_cases he : j = i
                · subst he; rw [ha]; exact hlk
                · exact HJ.out j (by omega) h2)
              have HTK : Hid (l.take (i + 1) = l.take i ++ [a]) := Lib.hid (by rw [List.take_succ_eq_append_getElem hlt, ha])
              have HFO : Hid (∀ u ∈ ([.int .i64 (a : Int)] : List Value), u.oneCell' = true) := Lib.hid (by intro u hu; simp at hu; rcases hu with rfl; rfl)
              have HO1 : Hid ((wr.alloc (.cells #[.int .i64 (a : Int)] 3)).ownsRow 0 3 1 u15 i ((l.take i).map (fun (n : Nat) => Value.int .i64 (n : Int)))) := Lib.hid (by
                have := own_chg HV.out.1 ((Chg.refl (fun _ => False) wr).alloc (.cells #[.int .i64 (a : Int)] 3)) (fun _ _ h => h)
                rwa [hil] at this)
              have hHs : wr.heap.size ≤ wr.heap.size + 1 := by omega
              clear ha hil hlb
              go_wp2_with (at_builtin; go_loud (refine wpList_append_lies _ rfl (.tmp 85) (.tmp 90) 52 (by rfl) 0 3 i0 _ 1 8 Try.underlying52 hi hz0 hz1 hz2 rfl (by omega) u15 i ((l.take i).map (fun (n : Nat) => Value.int .i64 (n : Int))) (by rfl) HO1.out ⟨wr.heap.size, 0, none⟩ 1 1 [.int .i64 (a : Int)] (by rfl) (by rfl) (World.news_of_block (Blk.new wr 3 #[.int .i64 (a : Int)])) HFO.out (by omega) (by unfold maxLen; omega) (by omega) (Nat.zero_le _) (wr.heap.size + 1) (by simp) ?_; intro gn capn wn hown hgr hat hltn; have HG2 := Lib.hid (HV.out.grown' HIL.out ((Chg.refl (fun _ => False) _).alloc _) hown hgr hat (by omega)); clear hown hgr hat hltn))
              go_roundw
              case rel => exact ⟨i + 1, by omega, by go_num, HJ2, by rw [HTK.out]; exact HG2⟩
              case measure => simp [intOf]; omega
            · have HEQ : Hid (endsL (eps - 1) (L.take K) = l.take i ++ [K]) := Lib.hid (by
                obtain ⟨O, R, q1, q2, q3, q4⟩ := HL0.out
                rw [q4, want_is q1 q2 q3 hi2 (fun j h => HJ.out j h (by omega)) (fun h k => hlt ⟨h, h, k⟩)])
              have HI2 := Lib.hid hi2
              by_cases h3 : i < l.length
              · obtain ⟨lb, lo, rfl, hlb, hlc⟩ := (H4.out.1.below HV.out.2.2).at h3
                have hlk : ¬ l[i] < K := fun k => hlt ⟨h3, h3, k⟩
                obtain ⟨a, ha⟩ : ∃ a, l[i] = a := ⟨_, rfl⟩
                rw [ha] at hlk hlc
                clear ha hlt hlb hil
                go_wp2_with fail
                go_meet
                case rel => exact ⟨i, HI2.out, HV, HEQ⟩
              · clear hlt hil
                go_wp2_with fail
                go_meet
                case rel => exact ⟨i, HI2.out, HV, HEQ⟩
        case rest =>
          obtain ⟨i, hi2, HV, HEQ⟩ := hcut
          have hil : (l.take i).length = i := by rw [List.length_take]; omega
          have HIL := Lib.hid hil
          have hml : Hid ((l.take i ++ [K]).length = i + 1) := Lib.hid (by rw [List.length_append, hil]; rfl)
          have hib : i + 1 ≤ 17592186044416 := by
            have h1 := endsL_len (e := eps - 1) (by have := HG.out.1; omega) (L.take K)
            rw [HEQ.out, hml.out, List.length_take] at h1
            omega
          obtain ⟨E, hE⟩ : ∃ E, endsL (eps - 1) (L.take K) = E := ⟨_, rfl⟩
          rw [hE] at HEQ H4 ⊢
          have HFO : Hid (∀ u ∈ ([.int .i64 (K : Int)] : List Value), u.oneCell' = true) := Lib.hid (by intro u hu; simp at hu; rcases hu with rfl; rfl)
          have HO1 : Hid ((wc.alloc (.cells #[.int .i64 (K : Int)] 3)).ownsRow 0 3 1 u15 i ((l.take i).map (fun (n : Nat) => Value.int .i64 (n : Int)))) := Lib.hid (by
            have := own_chg HV.out.1 ((Chg.refl (fun _ => False) wc).alloc (.cells #[.int .i64 (K : Int)] 3)) (fun _ _ h => h)
            rwa [hil] at this)
          have hiK : Hid (i ≤ l.length) := Lib.hid hi2
          have hlE : Hid (E.length ≤ 17592186044416 + 1) := Lib.hid (by rw [HEQ.out, hml.out]; omega)
          have hl0 : ((l.length : Int) == 0) = false := beq_eq_false_iff_ne.2 (by have := HNE.out; omega)
          have hl1 : (l.length : Int) ≠ 0 := by have := HNE.out; omega
          have tm2 : q.tmod (l.length : Int) = q % (l.length : Int) := Int.tmod_eq_emod_of_nonneg hq0
          have m1 := Int.emod_nonneg q hl1
          have m2 := Int.emod_lt_of_pos q (show (0 : Int) < l.length by have := HNE.out; omega)
          obtain ⟨idx, hidx⟩ : ∃ idx : Nat, (idx : Int) = q % (l.length : Int) := ⟨(q % (l.length : Int)).toNat, by omega⟩
          have tm3 : q.tmod (l.length : Int) = (idx : Int) := by rw [tm2, hidx]
          have hix : idx < l.length := by omega
          clear hE hil tm2 m1 m2 hidx
          go_wp2_with (at_builtin; go_loud (refine wpList_append_lies _ rfl (.tmp 93) (.tmp 95) 52 (by rfl) 0 3 i0 _ 1 8 Try.underlying52 hi hz0 hz1 hz2 rfl (by omega) u15 i ((l.take i).map (fun (n : Nat) => Value.int .i64 (n : Int))) (by rfl) HO1.out ⟨wc.heap.size, 0, none⟩ 1 1 [.int .i64 (K : Int)] (by rfl) (by rfl) (World.news_of_block (Blk.new wc 3 #[.int .i64 (K : Int)])) HFO.out (by omega) (by unfold maxLen; omega) (by omega) (Nat.zero_le _) (wc.heap.size + 1) (by simp) ?_; intro gn capn wn hown hgr hat hltn; have HG2 := Lib.hid (HV.out.grown' HIL.out ((Chg.refl (fun _ => False) _).alloc _) hown hgr hat (by omega)); clear hown hgr hat hltn))
          have SM := same_any E (l.take i ++ [K]) A4 (some ⟨gn, 0, none⟩) c4 capn (by have := hlE.out; omega) wn (H4.out.2.1.below HG2.out.2.2) HG2.out.arg'
          rw [hml.out, show decide (E = l.take i ++ [K]) = true from decide_eq_true HEQ.out] at SM
          refine SM.mono ?_
          rintro e w5 ⟨rfl, b5⟩
          have k5 := below_next HG2.out.2.2 b5
          have H5 := Lib.hid (And.intro (H4.out.1.below k5) (below_next H4.out.2.2 k5))
          obtain ⟨lb, lo, rfl, hlb, hlc⟩ := H5.out.1.at hix
          obtain ⟨ha1, ha2⟩ := HC2.out idx hix
          obtain ⟨a, haa⟩ : ∃ a, l[idx] = a := ⟨_, rfl⟩
          rw [haa] at ha1 ha2 hlc
          obtain ⟨kb, ko, rfl, hkb, hkc⟩ := HA.out (by omega)
          have HAA := Lib.hid haa
          have HA2 := Lib.hid ha2
          have na : ¬ ((a : Int) < 0) := by omega
          have na2 : ¬ L.length < a := by omega
          have i4 : (0 : Int) ≤ (idx : Int) := by omega
          have i5 : (idx : Int) < (l.length : Int) := by omega
          have i6 : ((idx : Int)).toNat = idx := by omega
          have a4 : (0 : Int) ≤ (a : Int) := by omega
          have a5 : (a : Int) ≤ (L.length : Int) := by omega
          have a6 : ((a : Int)).toNat = a := by omega
          have hdl : (L.drop a).length = L.length - a := List.length_drop
          have ED := Lib.hid (fun (A'' : Option Addr) (c'' : Nat) (w' : World) (h : ArgU w' A'' (L.drop a)) => ends_arg eps HG.out.1 HG.out.2.1 A'' c'' (L.drop a) (HU.out.drop a) (by omega) (HG.out.2.2.sublist (List.drop_sublist _ _)) w' h)
          rw [hdl] at ED
          clear SM k5 H4 HG2 b5 HV HO1 HFO HIL hml hlE HEQ haa ha2 hkc hdl hi2
          obtain ⟨D, hD⟩ : ∃ D, endsL (eps - 1) (L.drop a) = D := ⟨_, rfl⟩
          rw [hD] at ED HA2
          have hDl : Hid (D.length ≤ 17592186044416) := Lib.hid (by rw [HA2.out]; simp; omega)
          clear hD
          go_upto_region 22 with fail
          go_cut [18, 19] (fun x18 x19 wx => ∃ A6 c6, x18 = .slice A6 D.length c6 ∧ x19 = .int .i64 0 ∧ Hid (ArgN wx A6 D ∧ Below w5.heap.size w5 wx))
          case first =>
            by_cases hac : c = a
            · have hLa : L.length - a = 0 := by omega
              have EE := ED.out (some ⟨kb, ko, none⟩) 0 w5 (fun h => by rw [List.length_drop] at h; omega)
              rw [hLa] at EE
              subst hac
              have hLc : L.length = c := by omega
              have HLC := Lib.hid hLc
              clear hLa hLc
              go_wp2_with fail
              refine EE.mono ?_
              rintro e w6 ⟨A6, c6, rfl, N6, b6⟩
              have H6 := Lib.hid (And.intro N6 b6)
              clear EE N6 b6
              go_wp2_with fail
              go_meet
              case rel => exact ⟨_, _, rfl, rfl, H6⟩
            · have hac2 : a < c := by omega
              have EE := ED.out (some ⟨kb, ko + a, none⟩) (c - a) w5 (ArgU.drop (HA.out.below H5.out.2))
              have hca : (a : Int) ≤ (c : Int) := by omega
              go_wp2_with fail
              refine EE.mono ?_
              rintro e w6 ⟨A6, c6, rfl, N6, b6⟩
              have H6 := Lib.hid (And.intro N6 b6)
              clear EE N6 b6
              go_wp2_with fail
              go_meet
              case rel => exact ⟨_, _, rfl, rfl, H6⟩
          case rest =>
            obtain ⟨A6, c6, rfl, rfl, H6⟩ := hcut
            have HS6 := Lib.hid (Ns.empty (Below.refl wc.heap.size wc))
            have HLB := Lib.hid (H5.out.1.below H6.out.2)
            have HIX := Lib.hid hix
            clear ED na na2 a4 a5 a6 hl0 hl1 tm3 hq0 hq1
            have i7 : IntKind.i64.wrap ((idx : Int) + 1) = (idx : Int) + 1 := IntWalk.i64_in _ (by omega)
            go_wp2_with fail
            go_loopw [20, 21] (fun x20 x21 wr => ∃ j : Nat, idx + 1 ≤ j ∧ j ≤ l.length ∧ x21 = .int .i64 (j : Int) ∧ Hid (Ns wc x20 (((l.take j).drop (idx + 1)).map (· - a)) wr)) (fun _ x _ => l.length - (intOf x).toNat)
            case atStart => exact ⟨idx + 1, by omega, by omega, by go_num, by rw [show (l.take (idx + 1)).drop (idx + 1) = [] from by rw [List.drop_of_length_le]; rw [List.length_take]; omega]; exact HS6⟩
            case round =>
              obtain ⟨j, hj1, hj2, rfl, HV⟩ := hrel
              have hil : (((l.take j).drop (idx + 1)).map (· - a)).length = j - (idx + 1) := by simp; omega
              have HIL := Lib.hid hil
              by_cases hlt : j < l.length
              · obtain ⟨_, _, hA', hlb2, hcj⟩ := HLB.out.at hlt
                injection hA' with hA'
                injection hA' with q1 q2
                subst q1 q2
                obtain ⟨_, _, hA', _, hci⟩ := HLB.out.at HIX.out
                injection hA' with hA'
                injection hA' with q1 q2
                subst q1 q2
                obtain ⟨v, hv⟩ : ∃ v, l[j] = v := ⟨_, rfl⟩
                have hav : a ≤ v := by rw [← hv, ← HAA.out]; exact HUP.out idx j (by omega) hlt
                rw [hv] at hcj
                rw [HAA.out] at hci
                have hvn : v ≤ L.length := by rw [← hv]; exact (HC2.out j hlt).1
                have hTK : Hid (((l.take (j + 1)).drop (idx + 1)).map (· - a) = ((l.take j).drop (idx + 1)).map (· - a) ++ [v - a]) := Lib.hid (by
                  rw [List.take_succ_eq_append_getElem hlt, List.drop_append_of_le_length (by rw [List.length_take]; omega), List.map_append, hv]; rfl)
                obtain ⟨d, hd⟩ : ∃ d : Nat, v - a = d := ⟨_, rfl⟩
                have hd2 : (v : Int) - (a : Int) = (d : Int) := by omega
                have u1 : IntKind.i64.wrap ((v : Int) - (a : Int)) = (d : Int) := by rw [hd2]; exact IntWalk.i64_in _ (by omega)
                rw [hd] at hTK
                have HJ := Lib.hid hj1
                have KC : Hid (∀ w', Below wc.heap.size wc w' → w'.cell? ⟨lb, lo + j, none⟩ = some (.int .i64 (v : Int)) ∧ w'.cell? ⟨lb, lo + idx, none⟩ = some (.int .i64 (a : Int))) := Lib.hid (fun w' k => ⟨(k.cell (p := ⟨lb, _, none⟩) hlb2).trans hcj, (k.cell (p := ⟨lb, _, none⟩) hlb2).trans hci⟩)
                have HD2 := Lib.hid hd2
                have HVN := Lib.hid hvn
                clear hv hil hcj hci hlb2 hav hd hj1 hd2 u1 hvn
                go_wp2_with fail
                refine come_append HV.out HIL.out (by omega) HIX.out (by omega) (by omega) (by have := HVN.out; omega) HD2.out KC.out _ _ _ _ _ _ _ _ _ _ _ _ _ _ _ _ _ _ _ _ _ _ _ _ _ _ _ _ _ _ _ _ _ _ _ _ _ _ _ _ _ _ _ _ _ _ _ _ _ _ _ _ _ _ _ _ _ _ _ _ _ _ _ _ _ _ _ _ _ _ _ _ _ _ _ _ _ _ _ _ _ _ _ _ _ _ _ _ _ _ _ _ _ _ _ _ _ _ _ _ _ _ _ _ _ _ _ _ _ _ _ _ _ _ _ _ _ _ _ _ _ _ _ _ _ _ _ _ _ _ _ _ _ _ _ _ _ _ _ _ _ _ _ _ _ _ _ _ _ _ _ _ _ _ _ _ _ _ _ _ _ _ _ _ ?_
                intro gn capn x146 x147 x148 x149 x150 x151 x152 x153 x154 x155 x156 x157 w9 H9
                have HG9 := Lib.hid H9
                clear H9
                go_wp2_with fail
                go_roundw
                case rel => exact ⟨j + 1, by have := HJ.out; omega, by omega, by go_num, by rw [hTK.out]; exact HG9⟩
                case measure => simp [intOf]; omega
              · obtain rfl : j = l.length := by omega
                rw [List.take_length] at HV
                rw [← HA2.out] at HV
                obtain ⟨A7, c7, hv7, N7⟩ := HV.out.arg
                subst hv7
                have SM := same_any D D A6 A7 c6 c7 (by have := hDl.out; omega) wr (H6.out.1.below HV.out.2.2) N7
                rw [show decide (D = D) = true from by simp] at SM
                have HFIN := Lib.hid (below_next H5.out.2 (below_next H6.out.2 HV.out.2.2))
                clear N7 HV hil HIL
                go_wp2_with fail
                refine SM.mono ?_
                rintro e w8 ⟨rfl, b8⟩
                go_wp2_with fail
                go_ret
                exact ⟨rfl, below_next HFIN.out b8⟩
end Go.Proofs.Ytanhhgifcolfaaa
