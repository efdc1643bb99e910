/-
  The law CutMoved.
-/
import Derived.Test.YtanhhgifcolfaaaCuMovP
namespace Go.Proofs.Ytanhhgifcolfaaa
open Go.RowKit
set_option linter.unusedVariables false
set_option linter.unusedSimpArgs false

set_option maxHeartbeats 4000000 in
set_option maxRecDepth 100000 in
theorem cutmoved_walk (A : Option Addr) (c : Nat) (L : List Int) (hL : U64s L) (hn : L.length ≤ 17592186044416) (eps : Int) (far : Int) (hfar : u64ok far) (w : World) (hA : ArgU w A L) :
    Calls Try.prog 13 #[.slice A L.length c, .int .i64 eps, .int .u64 far] w fun e w' => e = .returned (.bool true) ∧ Below w.heap.size w w' := by
  have SH := cshown_any w
  have HR := Lib.hid (fun (w' : World) (k : Below w.heap.size w w') => right_any eps A c L hL hn w' (hA.below k))
  have HEn := Lib.hid (fun (h : Good eps L) (w' : World) (k : Below w.heap.size w w') => ends_arg eps h.1 h.2.1 A c L hL hn h.2.2 w' (hA.below k))
  have HN := Lib.hid hn
  have HU := Lib.hid hL
  have HA := Lib.hid hA
  have HF := Lib.hid hfar
  obtain ⟨i0, hi, hz0, hz1, hz2⟩ := info_parts infoU
  clear hL hA hn hfar
  go_enter Try.func13, Try.ntmps13
  go_wp2_with fail
  refine SH.mono ?_
  rintro e w1 ⟨rfl, b1⟩
  have R1 := HR.out _ b1
  have HB1 := Lib.hid b1
  clear SH HR b1
  go_wp2_with fail
  refine R1.mono ?_
  rintro e w2 ⟨t, rfl, ht, b2⟩
  have HB2 := Lib.hid (below_next HB1.out b2)
  have HT := Lib.hid ht
  clear R1 HB1 b2 ht
  cases t with
  | false =>
    go_wp2_with fail
    go_ret
    exact ⟨rfl, HB2.out⟩
  | true =>
    have HG := Lib.hid (HT.out.1 rfl)
    clear HT
    by_cases h0 : L.length = 0
    · have g0 : ((L.length : Int) == 0) = true := by simp [h0]
      clear h0
      go_wp2_with fail
      go_ret
      exact ⟨rfl, HB2.out⟩
    · have g0 : ((L.length : Int) == 0) = false := beq_eq_false_iff_ne.2 (by omega)
      obtain ⟨b, o, rfl, hbl, hcl⟩ := HA.out (by omega)
      obtain ⟨last, hlast⟩ : ∃ last, L[L.length - 1]'(by omega) = last := ⟨_, rfl⟩
      have hlu := HU.out.at (i := L.length - 1) (by omega)
      have hl0 := hcl (L.length - 1) (by omega)
      rw [hlast] at hlu hl0
      have hl2 : w2.cell? ⟨b, o + (L.length - 1), none⟩ = some (.int .u64 last) := (HB2.out.cell (p := ⟨b, _, none⟩) hbl).trans hl0
      have hNn := HN.out
      have e0 : (0 : Int) ≤ (L.length : Int) - 1 := by omega
      have e1 : (L.length : Int) - 1 < (L.length : Int) := by omega
      have e2 : ((L.length : Int) - 1).toNat = L.length - 1 := by omega
      have e3 : IntKind.i64.wrap ((L.length : Int) - 1) = (L.length : Int) - 1 := IntWalk.i64_in _ (by omega)
      have hlu' := hlu
      have hfu := HF.out
      unfold u64ok at hlu' hfu
      have u1 : IntKind.u64.wrap (18446744073709551615 - last) = 18446744073709551615 - last := by rw [IntKind.wrap_u64]; omega
      have HFO := Lib.hid (farIn_ok hlu HF.out)
      have HLA := Lib.hid hlast

      have HCL := Lib.hid (And.intro hbl hcl)
      clear hlu hlast hl0 hcl hbl
      obtain ⟨room, hroom⟩ : ∃ room, 18446744073709551615 - last = room := ⟨_, rfl⟩
      have HRM := Lib.hid hroom
      have hr1 : 0 ≤ room := by omega
      have hr2 : room ≤ 18446744073709551615 := by omega
      rw [hroom] at u1
      have FARV : Hid (farIn last far = if room < 18446744073709551615 then far % (room + 1) else far) := Lib.hid (by unfold farIn; rw [hroom])
      go_upto_if 49 with fail
      go_cut [2] (fun x2 wx => x2 = .int .u64 (farIn last far) ∧ w2 = wx)
      case first =>
        by_cases hrm : room < 18446744073709551615
        · have g1 : decide (room < 18446744073709551615) = true := by simpa using hrm
          have u2 : IntKind.u64.wrap (room + 1) = room + 1 := by rw [IntKind.wrap_u64]; omega
          have u3 : ((room + 1 : Int) == 0) = false := beq_eq_false_iff_ne.2 (by omega)
          have u4 : far.tmod (room + 1) = far % (room + 1) := Int.tmod_eq_emod_of_nonneg hfu.1
          have FV : Hid (far % (room + 1) = farIn last far) := Lib.hid (by rw [FARV.out, if_pos hrm])
          have u5 : (room + 1 : Int) ≠ 0 := by omega
          have u6 : 0 ≤ far % (room + 1) := Int.emod_nonneg _ u5
          have u7 : far % (room + 1) < room + 1 := Int.emod_lt_of_pos _ (by omega)
          clear hroom
          go_wp2_with fail
          go_meet
          case rel => exact ⟨by rw [FV.out], rfl⟩
        · have g1 : decide (room < 18446744073709551615) = false := by simpa using hrm
          have FV : Hid (far = farIn last far) := Lib.hid (by rw [FARV.out, if_neg hrm])
          clear hroom
          go_wp2_with fail
          go_meet
          case rel => exact ⟨by rw [← FV.out], rfl⟩
      case rest =>
        obtain ⟨rfl, rfl⟩ := hcut
        obtain ⟨fr, hfr⟩ : ∃ fr, farIn last far = fr := ⟨_, rfl⟩
        rw [hfr] at HFO ⊢
        have START : Hid (Us w (.slice (some ⟨w2.heap.size, 0, none⟩) 0 0) [] (w2.alloc (.cells #[] 34))) := Lib.hid ⟨⟨rfl, .inr ⟨w2.heap.size, 0, #[], rfl, Nat.zero_le _, Blk.new _ _ _, Nat.le_refl _, Nat.zero_le _, rfl, rfl⟩⟩, fun g hg => by simp [Value.ownBlock] at hg; have := HB2.out.size; omega, below_next HB2.out (below_new (Below.refl _ _) _)⟩
        clear hfr FARV u1 hroom hr1 hr2 e0 e1 e2 e3 hl2 hlu' hfu
        go_wp2_with fail
        go_loopw [11, 12] (fun x11 x12 wr => ∃ i : Nat, i ≤ L.length ∧ x12 = .int .i64 i ∧ Hid (Us w x11 ((L.take i).map (· + fr)) wr)) (fun _ x _ => L.length - (intOf x).toNat)
        case atStart => exact ⟨0, by omega, rfl, START.out⟩
        case round =>
          obtain ⟨i, hi2, rfl, HV⟩ := hrel
          by_cases hlt : i < L.length
          · have hc := (HV.out.2.2.cell (p := ⟨b, o + i, none⟩) HCL.out.1).trans (HCL.out.2 i hlt)
            have hu1 := HU.out.at hlt
            have hul := up_last HG.out.2.2 hlt
            rw [HLA.out] at hul
            obtain ⟨k, hk⟩ : ∃ k, L[i] = k := ⟨_, rfl⟩
            rw [hk] at hc hu1 hul
            have HK : Hid ((L.take (i + 1)).map (· + fr) = (L.take i).map (· + fr) ++ [k + fr]) := Lib.hid (by
              rw [List.take_succ_eq_append_getElem hlt, List.map_append, hk]; rfl)
            unfold u64ok at hu1
            have hf1 := HFO.out
            have u1 : IntKind.u64.wrap (k + fr) = k + fr := by rw [IntKind.wrap_u64]; omega
            have hil : ((L.take i).map (· + fr)).length = i := by simp; omega
            have HIL := Lib.hid hil
            have HFOn : Hid (∀ u ∈ ([.int .u64 (k + fr)] : List Value), u.oneCell' = true) := Lib.hid (by intro u hu; simp at hu; rcases hu with rfl; rfl)
            have HO1 : Hid ((wr.alloc (.cells #[.int .u64 (k + fr)] 34)).ownsRow 0 34 1 u11 i (((L.take i).map (· + fr)).map (Value.int .u64))) := Lib.hid (by
              have := own_chg HV.out.1 ((Chg.refl (fun _ => False) wr).alloc (.cells #[.int .u64 (k + fr)] 34)) (fun _ _ h => h)
              rwa [hil] at this)
            clear hk hil hi2
            go_wp2_with (at_builtin; go_loud (refine wpList_append_lies _ rfl (.tmp 61) (.tmp 68) 22 (by rfl) 0 34 i0 _ 1 8 Try.underlying22 hi hz0 hz1 hz2 rfl (by omega) u11 i (((L.take i).map (· + fr)).map (Value.int .u64)) (by rfl) HO1.out ⟨wr.heap.size, 0, none⟩ 1 1 [.int .u64 (k + fr)] (by rfl) (by rfl) (World.news_of_block (Blk.new wr 34 #[.int .u64 (k + fr)])) HFOn.out (by omega) (by unfold maxLen; omega) (by omega) (Nat.zero_le _) (wr.heap.size + 1) (by simp) ?_; intro gn capn wn hown hgr hat hltn; have HG2 := Lib.hid (HV.out.grown' HIL.out hown hgr hat); clear hown hgr hat hltn))
            go_roundw
            case rel => exact ⟨i + 1, by omega, by go_num, by rw [HK.out]; exact HG2⟩
            case measure => simp [intOf]; omega
          · have hil : i = L.length := by omega
            subst hil
            obtain ⟨A2, c2, hv2, hA2⟩ := HV.out.arg
            rw [List.take_length] at hv2 hA2
            have hl9 : (L.map (· + fr)).length = L.length := by simp
            rw [hl9] at hv2
            subst hv2
            have E1 := HEn.out HG.out wr HV.out.2.2
            have hU2 : U64s (L.map (· + fr)) := by
              intro k hk
              obtain ⟨a, ha, rfl⟩ := List.mem_map.1 hk
              obtain ⟨j, hj, rfl⟩ := List.mem_iff_getElem.1 ha
              have h1 := HU.out.at hj
              have h2 := up_last HG.out.2.2 hj
              rw [HLA.out] at h2
              have h3 := HFO.out
              unfold u64ok at *; omega
            have E2 := Lib.hid (fun (w' : World) (k : Below wr.heap.size wr w') => ends_arg eps HG.out.1 HG.out.2.1 A2 c2 (L.map (· + fr)) hU2 (by rw [hl9]; exact hNn) (up_mv HG.out.2.2 fr) w' (hA2.below k))
            rw [endsL_mv, hl9] at E2
            have HBr := Lib.hid HV.out.2.2
            clear hl9 hU2 hA2 HV HEn hi2
            go_wp2_with fail
            refine E1.mono ?_
            rintro e w4 ⟨A4, c4, rfl, N4, b4⟩
            have H4 := Lib.hid (And.intro N4 (below_next HBr.out b4))
            have E3 := E2.out _ b4
            clear E1 E2 N4 b4
            go_wp2_with fail
            refine E3.mono ?_
            rintro e w5 ⟨A5, c5, rfl, N5, b5⟩
            have SM := same_any (endsL (eps - 1) L) (endsL (eps - 1) L) A4 A5 c4 c5 (by have := endsL_len (e := eps - 1) (by have := HG.out.1; omega) L; omega) w5 (H4.out.1.below b5) N5
            rw [show decide (endsL (eps - 1) L = endsL (eps - 1) L) = true from by simp] at SM
            have H5 := Lib.hid (below_next H4.out.2 b5)
            clear E3 N5 b5 H4
            generalize endsL (eps - 1) L = l at *
            go_wp2_with fail
            refine SM.mono ?_
            rintro e w6 ⟨rfl, b6⟩
            go_wp2_with fail
            go_ret
            exact ⟨rfl, below_next H5.out b6⟩
end Go.Proofs.Ytanhhgifcolfaaa
