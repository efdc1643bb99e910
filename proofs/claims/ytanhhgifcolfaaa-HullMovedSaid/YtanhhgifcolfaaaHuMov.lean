/-
  The law HullMoved.
-/
import Derived.Test.YtanhhgifcolfaaaHuMovP
namespace Go.Proofs.Ytanhhgifcolfaaa
open Go.RowKit
set_option linter.unusedVariables false
set_option linter.unusedSimpArgs false

structure MovAt (w : World) (p1 p2 p3 : Nat) (eps : Int) (L : List Int) (n : Nat) (fr : Int) (i : Nat) (all : Bool) (F : Fit) (wr : World) : Prop where
  hi : i ≤ n
  hn : F.keys.length ≤ i
  full : all = true → Full (eps - 1) F ∧ F.keys = L.take i
  t : Three w p1 p2 p3 (eps - 1) F (F.mv fr) Fit.zero wr
structure TrnAt (w : World) (p1 p2 p3 : Nat) (eps : Int) (n : Nat) (fr : Int) (j : Nat) (F H : Fit) (wr : World) : Prop where
  hj : j ≤ n
  turn : Turn (eps - 1) 18446744073709551615 F j H
  t : Three w p1 p2 p3 (eps - 1) F (F.mv fr) H wr
attribute [local go_sem high] eqSlope
set_option maxHeartbeats 4000000 in
set_option maxRecDepth 100000 in
theorem moved_walk (eps : Int) (A : Option Addr) (c : Nat) (L : List Int) (hL : U64s L) (hn : L.length ≤ 17592186044416) (far : Int) (hfar : u64ok far) (w : World) (hA : ArgU w A L) :
    Calls Try.prog 7 #[.int .i64 eps, .slice A L.length c, .int .u64 far] w fun e w' => e = .returned (.bool true) ∧ Below w.heap.size w w' := by
  have SH := shown_any w
  have HU := Lib.hid hL
  have HA := Lib.hid hA
  have HN := Lib.hid hn
  have HF := Lib.hid hfar
  clear hL hA hn hfar
  by_cases hb : eps < 2 ∨ 64 < eps
  · have NB := fun w => hull_New_bad eps hb w
    by_cases h2 : eps < 2
    · go_enter Try.func7, Try.ntmps7
      go_wp2_with fail
      refine SH.mono ?_
      rintro e w1 ⟨rfl, b1⟩
      go_wp2_with fail
      refine (NB w1).mono ?_
      rintro e w2 ⟨rfl, rfl⟩
      go_wp2_with fail
      refine (NB _).mono ?_
      rintro e w2 ⟨rfl, rfl⟩
      go_wp2_with fail
      refine (NB _).mono ?_
      rintro e w2 ⟨rfl, rfl⟩
      go_wp2_with fail
      go_ret
      exact ⟨rfl, b1⟩
    · have h3 : 64 < eps := by omega
      go_enter Try.func7, Try.ntmps7
      go_wp2_with fail
      refine SH.mono ?_
      rintro e w1 ⟨rfl, b1⟩
      go_wp2_with fail
      refine (NB w1).mono ?_
      rintro e w2 ⟨rfl, rfl⟩
      go_wp2_with fail
      refine (NB _).mono ?_
      rintro e w2 ⟨rfl, rfl⟩
      go_wp2_with fail
      refine (NB _).mono ?_
      rintro e w2 ⟨rfl, rfl⟩
      go_wp2_with fail
      go_ret
      exact ⟨rfl, b1⟩
  · have N := fun w => new_mine eps (by omega) (by omega) w
    have HE := Lib.hid hb
    clear hb
    go_enter Try.func7, Try.ntmps7
    go_wp2_with fail
    refine SH.mono ?_
    rintro e w1 ⟨rfl, b1⟩
    have HB1 := Lib.hid b1
    clear SH b1
    go_wp2_with fail
    refine (N w1).mono ?_
    rintro e w2 ⟨rfl, M2⟩
    have HM2 := Lib.hid M2
    clear M2
    go_wp2_with fail
    refine (N w2).mono ?_
    rintro e w3 ⟨rfl, M3⟩
    have HM3 := Lib.hid M3
    clear M3
    go_wp2_with fail
    refine (N w3).mono ?_
    rintro e w4 ⟨rfl, M4⟩
    have HM := Lib.hid (three_made HB1.out HM2.out HM3.out M4)
    clear N M4 HM2 HM3 HB1
    generalize w1.heap.size = p1 at *
    generalize w2.heap.size = p2 at *
    generalize w3.heap.size = p3 at *
    go_upto_block 0 with fail
    go_cut [14] (fun x14 wx => ∃ n : Nat, n ≤ L.length ∧ n ≤ 3000 ∧ x14 = .int .i64 n ∧ Hid ((L.take n).Pairwise (· < ·)) ∧ Hid (Three w p1 p2 p3 (eps - 1) Fit.zero Fit.zero Fit.zero wx))
    case first =>
      go_wp2_with fail
      go_loopw [14] (fun x14 wr => ∃ n : Nat, n ≤ L.length ∧ n ≤ 3000 ∧ x14 = .int .i64 n ∧ Hid ((L.take n).Pairwise (· < ·)) ∧ Hid (Three w p1 p2 p3 (eps - 1) Fit.zero Fit.zero Fit.zero wr)) (fun x _ => L.length - (intOf x).toNat)
      case atStart => exact ⟨0, by omega, by omega, rfl, Lib.hid (by simp), HM⟩
      case round =>
        obtain ⟨n, hn1, hn2, rfl, HP, HT⟩ := hrel
        have hNn := HN.out
        by_cases hlt : n < L.length
        · cases n with
          | zero =>
            have HP1 : Hid ((L.take 1).Pairwise (· < ·)) := Lib.hid up_one
            go_wp2_with fail
            go_quiet (fail)
            go_wp2_with fail
            go_roundw
            case rel => exact ⟨1, by omega, by omega, by go_num, HP1, Lib.hid (HT.out.below (drewN_below (Below.refl _ _) _))⟩
            case measure => simp [intOf]; omega
          | succ k =>
            obtain ⟨bb, o, rfl, hbl, hc0⟩ := HA.out.at (i := k) (by omega)
            obtain ⟨bb', o', hA', _, hc1⟩ := HA.out.at (i := k + 1) hlt
            injection hA' with hA'
            injection hA' with q1 q2
            subst q1 q2
            have hd0 : wr.drew.cell? ⟨bb, o + k, none⟩ = some (.int .u64 L[k]) := (HT.out.bel.cell (p := ⟨bb, _, none⟩) hbl).trans hc0
            have hd1 : wr.drew.cell? ⟨bb, o + (k + 1), none⟩ = some (.int .u64 L[k + 1]) := (HT.out.bel.cell (p := ⟨bb, _, none⟩) hbl).trans hc1
            have z0 : wr.cell? ⟨bb, o + k, none⟩ = some (.int .u64 L[k]) := hd0
            have z1 : wr.cell? ⟨bb, o + (k + 1), none⟩ = some (.int .u64 L[k + 1]) := hd1
            have ecast : ((k + 1 : Nat) : Int) = (k : Int) + 1 := by omega
            rw [ecast]
            have i0 : (0 : Int) ≤ (k : Int) + 1 := by omega
            have i1 : (k : Int) + 1 < (L.length : Int) := by omega
            have i2 : ((k : Int) + 1).toNat = k + 1 := by omega
            have i3 : IntKind.i64.wrap ((k : Int) + 1 - 1) = (k : Int) := by rw [show (k : Int) + 1 - 1 = k from by omega]; exact IntWalk.i64_in _ (by omega)
            have i4 : (0 : Int) ≤ (k : Int) := by omega
            have i5 : (k : Int) < (L.length : Int) := by omega
            have i6 : IntKind.i64.wrap ((k : Int) + 1 + 1) = (k : Int) + 1 + 1 := IntWalk.i64_in _ (by omega)
            have i7 : IntKind.i64.wrap (k : Int) = (k : Int) := IntWalk.i64_in _ (by omega)
            have i8 : ((k : Int)).toNat = k := by omega
            have i9 : ((k : Int) + 1 == 0) = false := beq_eq_false_iff_ne.2 (by omega)
            obtain ⟨a, ea⟩ : ∃ a, L[k] = a := ⟨_, rfl⟩
            obtain ⟨b, eb⟩ : ∃ b, L[k + 1] = b := ⟨_, rfl⟩
            have HLT : Hid (∀ h : a < b, (L.take (k + 2)).Pairwise (· < ·)) := Lib.hid (fun h => up_take hlt HP.out (by rw [ea, eb]; exact h))
            rw [ea] at hd0 z0
            rw [eb] at hd1 z1
            clear hc0 hc1 ea eb ecast
            by_cases hk3 : k + 1 < 3000
            · have g3 : decide ((k : Int) + 1 < 3000) = true := decide_eq_true (by omega)
              by_cases hab : a < b
              · have g1 : decide (a < b) = true := decide_eq_true hab
                have HP2 := Lib.hid (HLT.out hab)
                go_wp2_with fail
                go_quiet (fail)
                go_wp2_with fail
                go_roundw
                case rel => exact ⟨k + 2, by omega, by omega, by go_num, HP2, Lib.hid (HT.out.below (drewN_below (Below.refl _ _) _))⟩
                case measure => simp [intOf]; omega
              · have g1 : decide (a < b) = false := decide_eq_false hab
                go_wp2_with fail
                go_quiet (fail)
                go_wp2_with fail
                go_meet
                case rel => exact ⟨k + 1, by omega, by omega, by go_num, HP, Lib.hid (HT.out.below (drewN_below (Below.refl _ _) _))⟩
            · have g3 : decide ((k : Int) + 1 < 3000) = false := decide_eq_false (by omega)
              go_wp2_with fail
              go_quiet (fail)
              go_wp2_with fail
              go_meet
              case rel => exact ⟨k + 1, by omega, by omega, by go_num, HP, Lib.hid (HT.out.below (drewN_below (Below.refl _ _) _))⟩
        · have g1 : decide ((n : Int) < (L.length : Int)) = false := decide_eq_false (by omega)
          go_wp2_with fail
          go_quiet (fail)
          go_wp2_with fail
          go_meet
          case rel => exact ⟨n, by omega, by omega, rfl, HP, Lib.hid (HT.out.below (drewN_below (Below.refl _ _) _))⟩
    case rest =>
      obtain ⟨n, hn1, hn2, rfl, HP, HT⟩ := hcut
      have hNn := HN.out
      by_cases h0 : n = 0
      · subst h0
        go_wp2_with fail
        go_ret
        exact ⟨rfl, HT.out.bel⟩
      · have g0 : ((n : Int) == 0) = false := beq_eq_false_iff_ne.2 (by omega)
        obtain ⟨b, o, rfl, hbl, hcl⟩ := HA.out (by omega)
        obtain ⟨last, hlast⟩ : ∃ last, L[n - 1]'(by omega) = last := ⟨_, rfl⟩
        have hlu := HU.out.at (i := n - 1) (by omega)
        have hl0 := hcl (n - 1) (by omega)
        rw [hlast] at hlu hl0
        have hl2 : wc.cell? ⟨b, o + (n - 1), none⟩ = some (.int .u64 last) := (HT.out.bel.cell (p := ⟨b, _, none⟩) hbl).trans hl0
        have e0 : (0 : Int) ≤ (n : Int) - 1 := by omega
        have e1 : (n : Int) - 1 < (L.length : Int) := by omega
        have e2 : ((n : Int) - 1).toNat = n - 1 := by omega
        have e3 : IntKind.i64.wrap ((n : Int) - 1) = (n : Int) - 1 := IntWalk.i64_in _ (by omega)
        have hlu' := hlu
        have hfu := HF.out
        unfold u64ok at hlu' hfu
        have u1 : IntKind.u64.wrap (18446744073709551615 - last) = 18446744073709551615 - last := by rw [IntKind.wrap_u64]; omega
        have HFO := Lib.hid (farIn_ok hlu HF.out)
        have HLA : Hid (∀ (i : Nat) (h : i < n) (h2 : i < L.length), L[i] ≤ last) := Lib.hid (fun i h h2 => by rw [← hlast]; exact up_at HP.out hn1 h)
        have HCL := Lib.hid (And.intro hbl hcl)
        clear hlu hlast hl0 hcl hbl
        obtain ⟨room, hroom⟩ : ∃ room, 18446744073709551615 - last = room := ⟨_, rfl⟩
        have hr1 : 0 ≤ room := by omega
        have hr2 : room ≤ 18446744073709551615 := by omega
        rw [hroom] at u1
        have FARV : Hid (farIn last far = if room < 18446744073709551615 then far % (room + 1) else far) := Lib.hid (by unfold farIn; rw [hroom])
        go_upto_if 102 with fail
        go_cut [2] (fun x2 wx => x2 = .int .u64 (farIn last far) ∧ wc = wx)
        case first =>
          by_cases hrm : room < 18446744073709551615
          · have g1 : decide (room < 18446744073709551615) = true := by simpa using hrm
            have u2 : IntKind.u64.wrap (room + 1) = room + 1 := by rw [IntKind.wrap_u64]; omega
            have u3 : ((room + 1 : Int) == 0) = false := beq_eq_false_iff_ne.2 (by omega)
            have u4 : far.tmod (room + 1) = far % (room + 1) := Int.tmod_eq_emod_of_nonneg hfu.1
            have FV : Hid (far % (room + 1) = farIn last far) := Lib.hid (by rw [FARV.out, if_pos hrm])
            have u5 : (room + 1 : Int) ≠ 0 := by omega
            have u6 : 0 ≤ far % (room + 1) := Int.emod_nonneg _ u5
            have u7 : far % (room + 1) < room + 1 := Int.emod_lt_of_pos _ (by omega)
            clear hroom
            go_wp2_with fail
            go_meet
            case rel => exact ⟨by rw [FV.out], rfl⟩
          · have g1 : decide (room < 18446744073709551615) = false := by simpa using hrm
            have FV : Hid (far = farIn last far) := Lib.hid (by rw [FARV.out, if_neg hrm])
            clear hroom
            go_wp2_with fail
            go_meet
            case rel => exact ⟨by rw [← FV.out], rfl⟩
        case rest =>
          obtain ⟨rfl, rfl⟩ := hcut
          obtain ⟨fr, hfr⟩ : ∃ fr, farIn last far = fr := ⟨_, rfl⟩
          rw [hfr] at HFO ⊢
          have HTm : Hid (Three w p1 p2 p3 (eps - 1) Fit.zero (Fit.zero.mv fr) Fit.zero wc) := Lib.hid HT.out
          clear hfr FARV u1 hroom hr1 hr2 e0 e1 e2 e3 hl2 hlu' hfu HT
          go_wp2_with fail
          go_loopw [16, 17] (fun x16 x17 wr => ∃ (i : Nat) (all : Bool) (F : Fit), x16 = .bool all ∧ x17 = .int .i64 i ∧ Hid (MovAt w p1 p2 p3 eps L n fr i all F wr)) (fun _ x _ => n - (intOf x).toNat)
          case atStart => exact ⟨0, true, Fit.zero, rfl, rfl, Lib.hid ⟨by omega, by simp [Fit.zero], fun _ => ⟨Full.zero _, by simp [Fit.zero]⟩, HTm.out⟩⟩
          case round =>
            obtain ⟨i, all, F, rfl, rfl, HR⟩ := hrel
            have hi := HR.out.hi
            have hFn := HR.out.hn
            by_cases hlt : i < n
            · have hcr := (HR.out.t.bel.cell (p := ⟨b, o + i, none⟩) HCL.out.1).trans (HCL.out.2 i (by omega))
              have hu := HU.out.at (i := i) (by omega)
              have hul := HLA.out i hlt (by omega)
              obtain ⟨key, hkey⟩ : ∃ key, L[i]'(by omega) = key := ⟨_, rfl⟩
              rw [hkey] at hcr hu hul
              have HC : Hid (b < w.heap.size ∧ w.cell? ⟨b, o + i, none⟩ = some (.int .u64 key)) := Lib.hid ⟨HCL.out.1, by rw [← hkey]; exact HCL.out.2 i (by omega)⟩
              have HKE : Hid (L.take (i + 1) = L.take i ++ [key]) := Lib.hid (by rw [List.take_succ_eq_append_getElem (by omega : i < L.length), hkey])
              have HUk := Lib.hid hu
              have hf1 := HFO.out
              unfold u64ok at hu
              have HUf : Hid (u64ok (key + fr)) := Lib.hid (by unfold u64ok; omega)
              have v1 : IntKind.u64.wrap (key + fr) = key + fr := by rw [IntKind.wrap_u64]; omega
              have j1 : (i : Int) < (n : Int) := by omega
              have j2 : (i : Int) < (L.length : Int) := by omega
              obtain ⟨⟨⟨t, cc⟩, F'⟩, hadd⟩ : ∃ r, F.add (eps - 1) key = r := ⟨_, rfl⟩
              have HAD := Lib.hid hadd
              have A1 := HR.out.t.add1 hadd HUk.out (by omega)
              have A2 := Lib.hid (fun (w' : World) (P : Three w p1 p2 p3 (eps - 1) F' (F.mv fr) Fit.zero w') => P.add2 (Fit.mv_add hadd) HUf.out (by simp [Fit.mv]; omega))
              have HLEN : Hid (F'.keys.length ≤ i + 1) := Lib.hid (by have k := Fit.add_len (F := F) (e := eps - 1) (key := key); rw [hadd] at k; simp only [] at k; omega)
              clear hkey hadd hu
              go_wp2_with fail
              refine A1.mono ?_
              rintro e w5 ⟨rfl, P5⟩
              have HP5 := Lib.hid P5
              have hc5 := (P5.bel.cell (p := ⟨b, o + i, none⟩) HC.out.1).trans HC.out.2
              have A2' := A2.out _ P5
              clear P5 A1 A2 hcr
              go_wp2_with fail
              refine A2'.mono ?_
              rintro e w6 ⟨rfl, P6⟩
              have HP6 := Lib.hid P6
              clear P6 A2' hc5 HP5
              have L1 := least_mine HP6.out.one
              go_wp2_with fail
              refine L1.mono ?_
              rintro e w7 ⟨rfl, b7⟩
              have HP7 := Lib.hid (HP6.out.below b7)
              have L2 := HP7.out.mvLeast
              clear L1 b7 HP6
              go_wp2_with fail
              refine L2.mono ?_
              rintro e w8 ⟨rfl, b8⟩
              have HP8 := Lib.hid (HP7.out.below b8)
              have T1 := most_mine HP8.out.one
              clear L2 b8 HP7
              go_wp2_with fail
              refine T1.mono ?_
              rintro e w9 ⟨rfl, b9⟩
              have HP9 := Lib.hid (HP8.out.below b9)
              have T2 := HP9.out.mvMost
              clear T1 b9 HP8
              go_wp2_with fail
              refine T2.mono ?_
              rintro e w10 ⟨rfl, b10⟩
              have HP10 := Lib.hid (HP9.out.below b10)
              have C1 := count_mine HP10.out.one
              have C2 := HP10.out.mvCount
              clear T2 b10 HP9
              go_wp2_with fail
              refine C1.mono ?_
              rintro e w11 ⟨rfl, rfl⟩
              clear C1
              go_wp2_with fail
              refine C2.mono ?_
              rintro e w12 ⟨rfl, rfl⟩
              clear C2
              have HFU : Hid ((all && t) = true → Full (eps - 1) F' ∧ F'.keys = L.take (i + 1)) := Lib.hid (fun h => by
                rw [Bool.and_eq_true] at h
                obtain ⟨ha, rfl⟩ := h
                obtain ⟨f1, f2⟩ := HR.out.full ha
                have := HE.out
                exact ⟨f1.add (by omega) HAD.out, by rw [Fit.add_keys HAD.out, f2, HKE.out]⟩)
              cases all with
              | false =>
                go_wp2_with fail
                go_roundw
                case rel => exact ⟨i + 1, false, F', rfl, by go_num, Lib.hid ⟨by omega, HLEN.out, fun h => by simp at h, HP10.out⟩⟩
                case measure => simp [intOf]; omega
              | true =>
                go_wp2_with fail
                go_roundw
                case rel => exact ⟨i + 1, t, F', rfl, by go_num, Lib.hid ⟨by omega, HLEN.out, fun h => HFU.out (by rw [h]; rfl), HP10.out⟩⟩
                case measure => simp [intOf]; omega
            · have hil : i = n := by omega
              subst hil
              cases all with
              | false =>
                go_wp2_with fail
                go_loopw [22] (fun x22 wx => Hid (Below w.heap.size w wx)) (fun x _ => 0)
                case atStart => exact Lib.hid HR.out.t.bel
                case round =>
                  go_wp2_with fail
                  go_ret
                  exact ⟨rfl, hrel.out⟩
              | true =>
                have HFu := Lib.hid (HR.out.full rfl)
                have HST : Hid (TrnAt w p1 p2 p3 eps i fr i F Fit.zero wr) := Lib.hid ⟨Nat.le_refl _, by
                  have k := Turn.zero (eps - 1) 18446744073709551615 F
                  have hl : F.keys.length = i := by rw [HFu.out.2, List.length_take]; omega
                  rwa [hl] at k, HR.out.t⟩
                clear HR HTm
                have e3 : IntKind.i64.wrap ((i : Int) - 1) = (i : Int) - 1 := IntWalk.i64_in _ (by omega)
                go_wp2_with fail
                go_loopw [22] (fun x22 wx => ∃ (j : Nat) (H : Fit), x22 = .int .i64 ((j : Int) - 1) ∧ Hid (TrnAt w p1 p2 p3 eps i fr j F H wx)) (fun x _ => (intOf x + 1).toNat)
                case atStart => exact ⟨i, Fit.zero, rfl, HST⟩
                case round =>
                  obtain ⟨j, H, rfl, HR⟩ := hrel
                  have hj := HR.out.hj
                  cases j with
                  | zero =>
                    obtain ⟨q1, q2, q3⟩ := HR.out.turn.end (by have := HE.out; omega) HFu.out.1
                    have hl : F.keys.length = i := by rw [HFu.out.2, List.length_take]; omega
                    rw [hl] at q1
                    have C1 := count_mine HR.out.t.three
                    have L1 := fun (wy : World) (k : Below wr.heap.size wr wy) => least_mine (HR.out.t.below k).three
                    have T1 := fun (wy : World) (k : Below wr.heap.size wr wy) => most_mine (HR.out.t.below k).three
                    rw [q1] at C1
                    rw [q2] at L1
                    rw [q3] at T1
                    have HL1 := Lib.hid L1
                    have HT1 := Lib.hid T1
                    clear q1 q2 q3 hl L1 T1
                    rw [show ((0 : Nat) : Int) - 1 = -1 from rfl]
                    go_wp2_with fail
                    refine C1.mono ?_
                    rintro e w13 ⟨rfl, rfl⟩
                    have L2 := HL1.out _ (Below.refl _ _)
                    clear C1
                    go_wp2_with fail
                    refine L2.mono ?_
                    rintro e w14 ⟨rfl, b14⟩
                    have HB14 := Lib.hid b14
                    have L3 := least_mine (HR.out.t.below b14).one
                    clear L2 b14
                    go_wp2_with fail
                    refine L3.mono ?_
                    rintro e w15 ⟨rfl, b15⟩
                    have HB15 := Lib.hid (below_next HB14.out b15)
                    have T2 := HT1.out _ HB15.out
                    clear L3 b15
                    go_wp2_with fail
                    refine T2.mono ?_
                    rintro e w16 ⟨rfl, b16⟩
                    have HB16 := Lib.hid (below_next HB15.out b16)
                    have T3 := most_mine (HR.out.t.below HB16.out).one
                    clear T2 b16
                    go_wp2_with fail
                    refine T3.mono ?_
                    rintro e w17 ⟨rfl, b17⟩
                    have HB17 := Lib.hid (below_next HB16.out b17)
                    clear T3 b17
                    go_wp2_with fail
                    go_ret
                    exact ⟨rfl, (HR.out.t.below HB17.out).bel⟩
                  | succ j =>
                    have hcr := (HR.out.t.bel.cell (p := ⟨b, o + j, none⟩) HCL.out.1).trans (HCL.out.2 j (by omega))
                    have hu := HU.out.at (i := j) (by omega)
                    obtain ⟨key, hkey⟩ : ∃ key, L[j]'(by omega) = key := ⟨_, rfl⟩
                    rw [hkey] at hcr hu
                    unfold u64ok at hu
                    have HFL : Hid (F.keys.length = i) := Lib.hid (by rw [HFu.out.2, List.length_take]; omega)
                    have hjl : j < F.keys.length := by rw [HFL.out]; omega
                    have HKK : Hid (F.keys[j] = key) := Lib.hid (by rw [List.getElem_of_eq HFu.out.2, List.getElem_take]; exact hkey)
                    obtain ⟨H', hadd, hturn⟩ := Turn.step (by have := HE.out; omega) HFu.out.1 HR.out.turn hjl
                    rw [HKK.out] at hadd
                    have HT2 := Lib.hid hturn
                    have HHL : H.keys.length < 17592186044416 := by
                      rw [HR.out.turn.keys, turned_len, List.length_drop, HFL.out]; omega
                    have A3 := HR.out.t.add3 hadd (by unfold u64ok; omega) HHL
                    have v1 : IntKind.u64.wrap (18446744073709551615 - key) = 18446744073709551615 - key := by rw [IntKind.wrap_u64]; omega
                    have ecast : (((j + 1 : Nat) : Int)) - 1 = (j : Int) := by omega
                    rw [ecast]
                    have j0 : (0 : Int) ≤ (j : Int) := by omega
                    have j2 : (j : Int) < (L.length : Int) := by omega
                    have j3 : IntKind.i64.wrap ((j : Int) - 1) = (j : Int) - 1 := IntWalk.i64_in _ (by omega)
                    clear hkey hadd hu HKK hjl hturn HHL ecast
                    go_wp2_with fail
                    refine A3.mono ?_
                    rintro e w13 ⟨rfl, P13⟩
                    have HP13 := Lib.hid P13
                    clear A3 P13 hcr
                    go_wp2_with fail
                    go_roundw
                    case rel => exact ⟨j, H', rfl, Lib.hid ⟨by omega, HT2.out, HP13.out⟩⟩
                    case measure => simp [intOf]
end Go.Proofs.Ytanhhgifcolfaaa
