/-
  The reference's Add.
-/
import Derived.Test.YtanhhgifcolfaaaQHuRefAp
import Derived.Deep.CutBlock
import Derived.Deep.DeepCutAuto
namespace Go.Proofs.Ytanhhgifcolfaaa
open Go.RowKit
set_option linter.unusedVariables false
set_option linter.unusedSimpArgs false

theorem RefM.cellAt {w : World} {b : Nat} {e : Int} {F : Fit} {g n c : Nat} (h : RefM w b e F (.slice (some ⟨g, 0, none⟩) n c)) {i : Nat} (hi : i < F.keys.length) : w.cell? ⟨g, i, none⟩ = some (.int .u64 F.keys[i]) := by
  have hc := World.ownsRow.cells h.row (g := g) rfl i (.int .u64 F.keys[i]) (by simp [List.getElem?_eq_getElem hi])
  rw [Addr.add_mid, Nat.zero_add] at hc
  exact hc
/-- What the reference's Add leaves. -/
def RefAddO (w : World) (b : Nat) (e : Int) (F : Fit) (S : Nat → Prop) (key : Int) (w' : World) : Prop :=
  ∃ S', RefO w' b e (F.add e key).2 S' ∧ Chg S w w' ∧ ∀ k, S' k → S k ∨ w.heap.size ≤ k
theorem ref_add_late {w : World} {b : Nat} {e : Int} {F : Fit} {v : Value} {key : Int} (M : RefM w b e F v) (hl : F.late key = true) (he : -1 ≤ e) (he2 : e ≤ 63) (hbig : F.keys.length < 17592186044416) :
    Calls Try.prog 18 #[.pointer (some ⟨b, 0, none⟩), .int .u64 key] w fun e' w' => e' = .returned (.tuple #[.bool false, .int .i64 40]) ∧ w = w' := by
  obtain ⟨A, c, rfl, hA⟩ := M.form
  rw [F.late_eq, Bool.and_eq_true] at hl
  obtain ⟨h1, h2⟩ := hl
  have h1 : 0 < F.keys.length := by simpa using h1
  obtain ⟨g, rfl, hg⟩ := hA h1
  have x1 : w.cell? ⟨b, 1, none⟩ = some (.slice (some ⟨g, 0, none⟩) F.keys.length c) := M.blk.cell 1
  have hL : F.keys[F.keys.length - 1]'(by omega) = F.lst := by
    unfold Fit.lst
    rw [List.getLast?_eq_getElem?, List.getElem?_eq_getElem (by omega), Option.getD_some]
  have x2 := hg (F.keys.length - 1) (by omega)
  rw [hL] at x2
  have e0 : (0 : Int) ≤ (F.keys.length : Int) - 1 := by omega
  have e1 : (F.keys.length : Int) - 1 < (F.keys.length : Int) := by omega
  have e2 : ((F.keys.length : Int) - 1).toNat = F.keys.length - 1 := by omega
  have e3 : IntKind.i64.wrap ((F.keys.length : Int) - 1) = (F.keys.length : Int) - 1 := IntWalk.i64_in _ (by omega)
  clear M hA hg hL hbig
  go_enter Try.func18, Try.ntmps18
  go_wp2
  go_ret2
  exact ⟨rfl, rfl⟩
theorem lowUp_succ {e n key : Int} {K : List Int} {low : Fr} {i : Nat} : lowUp e n key K low (i + 1) = stepLow e n key K (lowUp e n key K low i) i := rfl
theorem topUp_succ {e n key : Int} {K : List Int} {top : Fr} {i : Nat} : topUp e n key K top (i + 1) = stepTop e n key K (topUp e n key K top i) i := rfl
/-- What the reference's Add is called with. -/
structure RC (W : World) (b : Nat) (e : Int) (F : Fit) (v : Value) (key : Int) : Prop where
  M : RefM W b e F v
  S : ∃ c0 c1, FitS e F c0 c1
  hk : u64ok key
  hl : F.late key = false
  big : F.keys.length < 17592186044416
def lowI (e : Int) (F : Fit) (key : Int) (i : Nat) : Fr := lowUp e F.keys.length key F.keys F.low i
def topI (e : Int) (F : Fit) (key : Int) (i : Nat) : Fr := topUp e F.keys.length key F.keys F.top i
section
variable {W : World} {b : Nat} {e : Int} {F : Fit} {v : Value} {key : Int}
theorem RC.lowI_ok (C : RC W b e F v key) {i : Nat} (hi : i ≤ F.keys.length) : Fr64 (lowI e F key i) ∧ OkF (lowI e F key i) := by
  obtain ⟨c0, c1, S⟩ := C.S
  have hk2 := S.ok.lt C.hl
  rcases (lowUp_max (e := e) (n := F.keys.length) hk2 S.ok.low i hi).is with q | ⟨j, hj, hp, q⟩
  · rw [lowI, q]; exact ⟨S.fl, S.ok.low.ok⟩
  · rw [lowI, q]
    have := hk2 j (by omega); have := S.big; have := C.hk.2; have := S.e0
    have hm : u64ok (F.keys.getD j 0) := S.key _ (by rw [List.getD_eq_getElem?_getD, List.getElem?_eq_getElem (by omega), Option.getD_some]; exact List.getElem_mem (by omega))
    have := hm.1
    exact ⟨Fr64.low (by omega) (by omega) (by omega) (by omega), (lowest_low (by omega) (by omega)).1.ok⟩
theorem RC.topI_ok (C : RC W b e F v key) {i : Nat} (hi : i ≤ F.keys.length) : Fr64 (topI e F key i) ∧ OkF (topI e F key i) := by
  obtain ⟨c0, c1, S⟩ := C.S
  have hk2 := S.ok.lt C.hl
  rcases (topUp_min (e := e) (n := F.keys.length) (by have := S.e0; omega) (fun i hi => by omega) hk2 S.ok.top i hi).is with q | ⟨j, hj, q⟩
  · rw [topI, q]; exact ⟨S.ft, S.ok.top.ok⟩
  · rw [topI, q]
    have := hk2 j (by omega); have := S.big; have := C.hk.2; have := S.e0; have := S.e1
    have hm : u64ok (F.keys.getD j 0) := S.key _ (by rw [List.getD_eq_getElem?_getD, List.getElem?_eq_getElem (by omega), Option.getD_some]; exact List.getElem_mem (by omega))
    have := hm.1
    exact ⟨Fr64.low (by omega) (by omega) (by omega) (by omega), (lowest_low (by omega) (by omega)).1.ok⟩
theorem RC.far (C : RC W b e F v key) {g : Nat} (hg : W.heap.size ≤ g) : ¬ (g = b ∨ v.ownBlock = some g) := by
  rintro (rfl | h)
  · have := C.M.blk.lt; omega
  · have := own_lt C.M.row h; omega
/-- At one key: how far it is, and what is known of the two fractions. -/
theorem RC.at (C : RC W b e F v key) {i : Nat} (hi : i < F.keys.length) : u64ok F.keys[i] ∧ F.keys[i] < key ∧ F.keys.getD i 0 = F.keys[i] := by
  obtain ⟨c0, c1, S⟩ := C.S
  have h1 := S.ok.lt C.hl i hi
  have h2 : F.keys.getD i 0 = F.keys[i] := by rw [List.getD_eq_getElem?_getD, List.getElem?_eq_getElem hi, Option.getD_some]
  rw [h2] at h1
  exact ⟨S.key _ (List.getElem_mem hi), h1, h2⟩
end
theorem RC.took {W w2 w5 : World} {b : Nat} {e : Int} {F : Fit} {v v' : Value} {key : Int} (C : RC W b e F v key) (B2 : Below W.heap.size W w2) (H5 : RA w2 b e F v v' key w5) (hlt : ¬ ltF (topI e F key F.keys.length) (lowI e F key F.keys.length)) :
    RefAddO W b e F (fun k => k = b ∨ v.ownBlock = some k) key ((((w5.setCell ⟨b, 2, none⟩ (.int .u64 (lowI e F key F.keys.length).1)).setCell ⟨b, 3, none⟩ (.int .u64 (lowI e F key F.keys.length).2)).setCell ⟨b, 4, none⟩ (.int .u64 (topI e F key F.keys.length).1)).setCell ⟨b, 5, none⟩ (.int .u64 (topI e F key F.keys.length).2)) := by
  have EA : F.add e key = ((true, 0), ⟨F.keys ++ [key], F.lowWith e key, F.topWith e key⟩) := Fit.add_take C.hl hlt
  obtain ⟨c0, c1, S⟩ := C.S
  have hok := S.ok.add (by have := S.e0; omega) key (e := e)
  rw [EA] at hok
  have T := S.taken C.hk C.hl C.big hok hlt
  have hbl := C.M.blk.lt
  have nb : v'.ownBlock ≠ some b := by
    intro hq
    rcases H5.own b hq with k | k
    · exact C.M.ne k
    · have := B2.size; omega
  refine ⟨fun k => k = b ∨ v'.ownBlock = some k, ?_, ?_, ?_⟩
  · rw [EA]
    exact ⟨v', ⟨(((H5.blk.set 2 _).set 3 _).set 4 _).set 5 _, own_far (own_far (own_far (own_far H5.row nb _) nb _) nb _) nb _⟩, ⟨_, _, T⟩, rfl⟩
  · have k1 : Chg (fun k => k = b ∨ v.ownBlock = some k) W w5 := ((Chg.of_below B2).mono (fun _ _ h => h.elim)).trans H5.chg (fun i _ h => h)
    exact (((k1.setCell (fun _ => .inl rfl) _).setCell (fun _ => .inl rfl) _).setCell (fun _ => .inl rfl) _).setCell (fun _ => .inl rfl) _
  · rintro k (rfl | h)
    · exact .inl (.inl rfl)
    · rcases H5.own k h with m | m
      · exact .inl (.inr m)
      · exact .inr (Nat.le_trans B2.size m)
/-- Where the loop stands. -/
def RLTo (W : World) (b : Nat) (e : Int) (F : Fit) (v : Value) (key : Int) (g8 g9 : Nat) (x : Value) (w : World) : Prop :=
  ∃ i : Nat, i ≤ F.keys.length ∧ x = .int .i64 i ∧ RL W b e F v g8 g9 (lowI e F key i) (topI e F key i) w
set_option maxHeartbeats 8000000 in
set_option maxRecDepth 100000 in
theorem ref_add_ac {W : World} {b : Nat} {e : Int} {F : Fit} {v : Value} {key : Int} (C : RC W b e F v key) :
    Calls Try.prog 18 #[.pointer (some ⟨b, 0, none⟩), .int .u64 key] W fun e' w' => e' = .returned (.tuple #[.bool (F.add e key).1.1, .int .i64 (F.add e key).1.2]) ∧ RefAddO W b e F (fun k => k = b ∨ v.ownBlock = some k) key w' := by
  have HC := Lib.hid C
  have he0 : 1 ≤ e := by obtain ⟨_, _, S⟩ := C.S; exact S.e0
  have he1 : e ≤ 63 := by obtain ⟨_, _, S⟩ := C.S; exact S.e1
  have hbig := C.big
  obtain ⟨A, c, hv, hA⟩ := C.M.form
  subst hv
  have HA := Lib.hid hA
  have x1 : W.cell? ⟨b, 1, none⟩ = some (.slice A F.keys.length c) := C.M.blk.cell 1
  have x0 : W.cell? ⟨b, 0, none⟩ = some (.int .i64 (e + 1)) := C.M.blk.cell 0
  have x2 : W.cell? ⟨b, 2, none⟩ = some (.int .u64 F.low.1) := C.M.blk.cell 2
  have x3 : W.cell? ⟨b, 3, none⟩ = some (.int .u64 F.low.2) := C.M.blk.cell 3
  have y4 : (W.alloc (.cells #[.int .u64 F.low.1, .int .u64 F.low.2] 39)).cell? ⟨b, 4, none⟩ = some (.int .u64 F.top.1) := (C.M.blk.alloc _).cell 4
  have y5 : (W.alloc (.cells #[.int .u64 F.low.1, .int .u64 F.low.2] 39)).cell? ⟨b, 5, none⟩ = some (.int .u64 F.top.2) := (C.M.blk.alloc _).cell 5
  have a0 : IntKind.i64.wrap (e + 1 - 1) = e := by rw [show e + 1 - 1 = e from by omega]; exact IntWalk.i64_in _ (by omega)
  have START : Hid (RL W b e F (.slice A F.keys.length c) W.heap.size (W.heap.size + 1) (lowI e F key 0) (topI e F key 0) ((W.alloc (.cells #[.int .u64 F.low.1, .int .u64 F.low.2] 39)).alloc (.cells #[.int .u64 F.top.1, .int .u64 F.top.2] 39))) :=
    Lib.hid ⟨(C.M.below (below_new (Below.refl _ _) _)).below (below_new (Below.refl _ _) _), (Blk.new _ _ _).alloc _, Blk.new' _ _ (by simp), below_new (below_new (Below.refl _ _) _) _⟩
  have LE := F.late_eq key
  rw [C.hl] at LE
  have hcase : ¬ 0 < F.keys.length ∨ (0 < F.keys.length ∧ decide (key ≤ F.lst) = false) := by
    by_cases hd : 0 < F.keys.length
    · have : decide (0 < (F.keys.length : Int)) = true := by simpa using hd
      rw [this, Bool.true_and] at LE; exact .inr ⟨hd, LE.symm⟩
    · exact .inl hd
  have hLs : ∀ (h : 0 < F.keys.length), F.keys[F.keys.length - 1]'(by omega) = F.lst := by
    intro h
    unfold Fit.lst
    rw [List.getLast?_eq_getElem?, List.getElem?_eq_getElem (by omega), Option.getD_some]
  have HLs := Lib.hid hLs
  clear C hA LE hLs
  go_enter Try.func18, Try.ntmps18
  go_upto_region 2 with fail
  go_cut [32] (fun s32 wx => s32 = .bool false ∧ W = wx)
  case first =>
    rcases hcase with h1 | ⟨h1, h2⟩
    · go_wp2_with fail
      go_meet
      case rel => exact ⟨rfl, rfl⟩
    · obtain ⟨g, rfl, hg⟩ := HA.out h1
      have z2 := hg (F.keys.length - 1) (by omega)
      rw [HLs.out h1] at z2
      have e0 : (0 : Int) ≤ (F.keys.length : Int) - 1 := by omega
      have e1 : (F.keys.length : Int) - 1 < (F.keys.length : Int) := by omega
      have e2 : ((F.keys.length : Int) - 1).toNat = F.keys.length - 1 := by omega
      have e3 : IntKind.i64.wrap ((F.keys.length : Int) - 1) = (F.keys.length : Int) - 1 := IntWalk.i64_in _ (by omega)
      clear hg
      go_wp2_with fail
      go_meet
      case rel => exact ⟨rfl, rfl⟩
  case rest =>
    obtain ⟨rfl, rfl⟩ := hcut
    clear hcase
    go_wp2_with fail
    clear x0 x1 x2 x3 y4 y5 a0
    go_loopw [10] (fun x wr => RLTo W b e F (.slice A F.keys.length c) key W.heap.size (W.heap.size + 1) x wr) (fun x _ => F.keys.length - (intOf x).toNat)
    case atStart => exact ⟨0, by omega, rfl, START.out⟩
    case round =>
      obtain ⟨i, hi, rfl, R⟩ := hrel
      have HR := Lib.hid R
      have x1 : wr.cell? ⟨b, 1, none⟩ = some (.slice A F.keys.length c) := R.m.blk.cell 1
      clear R
      by_cases hlt : i < F.keys.length
      · obtain ⟨g, rfl, hg⟩ := HA.out (by omega)
        obtain ⟨ku, kl, kd⟩ := HC.out.at hlt
        have z2 := HR.out.m.cellAt hlt
        obtain ⟨k, hkk⟩ : ∃ k, F.keys[i] = k := ⟨_, rfl⟩
        rw [hkk] at ku kl kd z2
        have hk9 := HC.out.hk
        unfold u64ok at ku hk9
        have b1 : IntKind.u64.wrap (key - k) = key - k := by rw [IntKind.wrap_u64]; omega
        have HKD := Lib.hid kd
        clear hg hkk kd
        have LO := HC.out.lowI_ok (show i ≤ F.keys.length by omega)
        have TO := HC.out.topI_ok (show i ≤ F.keys.length by omega)
        have SL : Hid (lowI e F key (i + 1) = if 0 < (F.keys.length : Int) - i - 2 * e then (if ltF (lowI e F key i) (lowest ((F.keys.length : Int) - i - 2 * e) (key - k)) then lowest ((F.keys.length : Int) - i - 2 * e) (key - k) else lowI e F key i) else lowI e F key i) := Lib.hid (by
          show stepLow e F.keys.length key F.keys (lowI e F key i) i = _
          rw [stepLow, HKD.out])
        have ST : Hid (topI e F key (i + 1) = if ltF (lowest ((F.keys.length : Int) - i + 2 * e) (key - k)) (topI e F key i) then lowest ((F.keys.length : Int) - i + 2 * e) (key - k) else topI e F key i) := Lib.hid (by
          show stepTop e F.keys.length key F.keys (topI e F key i) i = _
          rw [stepTop, HKD.out])
        have HLO := Lib.hid LO
        have HTO := Lib.hid TO
        have HHI := Lib.hid hi
        generalize hli : lowI e F key i = li at *
        generalize hti : topI e F key i = ti at *
        have Hli := Lib.hid hli
        have Hti := Lib.hid hti
        clear LO TO hli hti
        go_upto_if 66 with fail
        go_cut [12] (fun x12 wx => Hid (RL W b e F (.slice (some ⟨g, 0, none⟩) F.keys.length c) W.heap.size (W.heap.size + 1) (lowI e F key (i + 1)) ti wx))
        case first =>
          by_cases hp : 0 < (F.keys.length : Int) - i - 2 * e
          · have hpd : decide (0 < (F.keys.length : Int) - i - 2 * e) = true := by simpa using hp
            have q1 : IntKind.u64.wrap ((F.keys.length : Int) - i - 2 * e) = (F.keys.length : Int) - i - 2 * e := by rw [IntKind.wrap_u64]; omega
            have LW := ref_lowest ((F.keys.length : Int) - i - 2 * e) (key - k) (by unfold u64ok; omega) (by unfold u64ok; omega) (by omega) wr
            have LL := lowest_low (n := (F.keys.length : Int) - i - 2 * e) (d := key - k) (by omega) (by omega)
            have LF := Fr64.low (n := (F.keys.length : Int) - i - 2 * e) (d := key - k) (by omega) (by omega) (by omega) (by omega)
            have SL1 := SL.out
            rw [if_pos hp] at SL1
            obtain ⟨s, hs⟩ : ∃ s, lowest ((F.keys.length : Int) - i - 2 * e) (key - k) = s := ⟨_, rfl⟩
            rw [hs] at LW LL LF SL1
            have BE := fun w => ref_Below li s HLO.out.1.u1 HLO.out.1.u2 LF.u1 LF.u2 HLO.out.2 LL.1.ok w
            have HSL := Lib.hid SL1
            clear LL LF SL1 hs
            go_wp2_with fail
            refine LW.mono ?_
            rintro e1 w1 ⟨rfl, hb1⟩
            have R1 := Lib.hid ((HR.out.below hb1).alloc (.cells #[.int .u64 s.1, .int .u64 s.2] 39))
            have B12 : Hid (Blk (w1.alloc (.cells #[.int .u64 s.1, .int .u64 s.2] 39)) w1.heap.size 39 #[.int .u64 s.1, .int .u64 s.2]) := Lib.hid (Blk.new _ _ _)
            obtain ⟨r0, r1, _, _⟩ := R1.out.l.cells2
            clear LW hb1 x1 z2
            go_wp2_with fail
            refine (BE _).mono ?_
            rintro e2 w2 ⟨rfl, hb2⟩
            have R2 := Lib.hid (R1.out.below hb2)
            have B2 := B12.out.below hb2
            clear r0 r1 BE R1
            by_cases hlt2 : ltF li s
            · rw [decide_eq_true hlt2]
              have E2 : Hid (s = lowI e F key (i + 1)) := Lib.hid (by rw [HSL.out, if_pos hlt2])
              obtain ⟨r0, r1, r2, r3⟩ := R2.out.l.cells2
              obtain ⟨r4, r5, _, _⟩ := B2.cells2
              clear hlt2 B2 hb2
              go_wp2_with fail
              go_meet
              case rel => rw [← E2.out]; exact Lib.hid (R2.out.setL HC.out.M (Nat.le_refl _) (by omega) _)
            · rw [decide_eq_false hlt2]
              have E2 : Hid (li = lowI e F key (i + 1)) := Lib.hid (by rw [HSL.out, if_neg hlt2])
              clear hlt2 B2 hb2
              go_wp2_with fail
              go_meet
              case rel => rw [← E2.out]; exact R2
          · have hpd : decide (0 < (F.keys.length : Int) - i - 2 * e) = false := by simpa using hp
            have E2 : Hid (li = lowI e F key (i + 1)) := Lib.hid (by rw [SL.out, if_neg hp])
            go_wp2_with fail
            go_meet
            case rel => rw [← E2.out]; exact HR
        case rest =>
          have q1 : IntKind.u64.wrap ((F.keys.length : Int) - i + 2 * e) = (F.keys.length : Int) - i + 2 * e := by rw [IntKind.wrap_u64]; omega
          have LW := ref_lowest ((F.keys.length : Int) - i + 2 * e) (key - k) (by unfold u64ok; omega) (by unfold u64ok; omega) (by omega) wc
          have LL := lowest_low (n := (F.keys.length : Int) - i + 2 * e) (d := key - k) (by omega) (by omega)
          have LF := Fr64.low (n := (F.keys.length : Int) - i + 2 * e) (d := key - k) (by omega) (by omega) (by omega) (by omega)
          have ST1 := ST.out
          obtain ⟨s, hs⟩ : ∃ s, lowest ((F.keys.length : Int) - i + 2 * e) (key - k) = s := ⟨_, rfl⟩
          rw [hs] at LW LL LF ST1
          have BE := fun w => ref_Below s ti LF.u1 LF.u2 HTO.out.1.u1 HTO.out.1.u2 LL.1.ok HTO.out.2 w
          have HST := Lib.hid ST1
          clear LL LF ST1 hs
          go_wp2_with fail
          refine LW.mono ?_
          rintro e1 w1 ⟨rfl, hb1⟩
          have R1 := Lib.hid ((hcut.out.below hb1).alloc (.cells #[.int .u64 s.1, .int .u64 s.2] 39))
          have B12 : Hid (Blk (w1.alloc (.cells #[.int .u64 s.1, .int .u64 s.2] 39)) w1.heap.size 39 #[.int .u64 s.1, .int .u64 s.2]) := Lib.hid (Blk.new _ _ _)
          obtain ⟨r0, r1, _, _⟩ := R1.out.t.cells2
          clear LW hb1 x1 z2
          go_wp2_with fail
          refine (BE _).mono ?_
          rintro e2 w2 ⟨rfl, hb2⟩
          have R2 := Lib.hid (R1.out.below hb2)
          have B2 := B12.out.below hb2
          clear r0 r1 BE R1
          by_cases hlt2 : ltF s ti
          · rw [decide_eq_true hlt2]
            have E2 : Hid (s = topI e F key (i + 1)) := Lib.hid (by rw [HST.out, if_pos hlt2])
            obtain ⟨r0, r1, r2, r3⟩ := R2.out.t.cells2
            obtain ⟨r4, r5, _, _⟩ := B2.cells2
            clear hlt2 B2 hb2
            go_wp2_with fail
            go_roundw
            case rel => exact ⟨i + 1, by omega, by go_num, by rw [← E2.out]; exact R2.out.setT HC.out.M (by omega) (by omega) _⟩
            case measure => simp [intOf]; omega
          · rw [decide_eq_false hlt2]
            have E2 : Hid (ti = topI e F key (i + 1)) := Lib.hid (by rw [HST.out, if_neg hlt2])
            clear hlt2 B2 hb2
            go_wp2_with fail
            go_roundw
            case rel => exact ⟨i + 1, by omega, by go_num, by rw [← E2.out]; exact R2.out⟩
            case measure => simp [intOf]; omega
      · obtain rfl : i = F.keys.length := by omega
        have LO := HC.out.lowI_ok (Nat.le_refl _)
        have TO := HC.out.topI_ok (Nat.le_refl _)
        have BE := fun w => ref_Below _ _ TO.1.u1 TO.1.u2 LO.1.u1 LO.1.u2 TO.2 LO.2 w
        obtain ⟨r0, r1, _, _⟩ := HR.out.l.cells2
        obtain ⟨r2, r3, _, _⟩ := HR.out.t.cells2
        clear LO TO
        go_wp2_with fail
        refine (BE _).mono ?_
        rintro e2 w2 ⟨rfl, hb2⟩
        have R2 := Lib.hid (HR.out.below hb2)
        clear r0 r1 r2 r3 BE x1
        by_cases hlt2 : ltF (topI e F key F.keys.length) (lowI e F key F.keys.length)
        · rw [decide_eq_true hlt2]
          have EA : Hid (F.add e key = ((false, 0), F)) := Lib.hid (Fit.add_refuse HC.out.hl hlt2)
          clear hlt2 hb2
          go_wp2_with fail
          go_ret2
          exact ⟨by rw [EA.out]; rfl, by rw [RefAddO, EA.out]; exact ⟨_, ⟨_, R2.out.m, HC.out.S, rfl⟩, (Chg.of_below R2.out.bel).mono (fun _ _ h => h.elim), fun k hk => .inl hk⟩⟩
        · rw [decide_eq_false hlt2]
          have EA : Hid (F.add e key = ((true, 0), ⟨F.keys ++ [key], F.lowWith e key, F.topWith e key⟩)) := Lib.hid (Fit.add_take HC.out.hl hlt2)
          have HN2 := Lib.hid hlt2
          clear hlt2 hb2
          go_upto_region 20 with fail
          refine ref_append hbig R2.out.m _ _ _ _ _ _ _ _ _ _ _ _ _ _ _ _ _ _ _ _ _ _ _ _ _ _ _ _ _ _ _ _ _ _ _ _ _ _ _ _ _ _ _ _ _ _ _ _ _ _ _ _ _ _ _ _ _ _ _ _ _ _ _ _ _ _ _ _ _ _ _ _ _ _ _ _ _ _ _ _ _ _ _ _ _ _ _ _ _ _ _ _ _ _ _ _ _ _ _ _ _ _ _ _ _ _ _ _ _ _ _ _ ?_
          intro v' x96 x97 x98 x99 x100 x101 x102 x103 x104 x105 w5 H5
          have HA5 := Lib.hid H5
          have g8 : Hid (Blk w5 W.heap.size 39 #[.int .u64 (lowI e F key F.keys.length).1, .int .u64 (lowI e F key F.keys.length).2]) := Lib.hid (R2.out.l.chg H5.chg (RC.far HC.out (Nat.le_refl _)))
          have g9 : Hid (Blk w5 (W.heap.size + 1) 39 #[.int .u64 (topI e F key F.keys.length).1, .int .u64 (topI e F key F.keys.length).2]) := Lib.hid (R2.out.t.chg H5.chg (RC.far HC.out (by omega)))
          have c2 : w5.cell? ⟨b, 2, none⟩ = some (.int .u64 F.low.1) := H5.blk.cell 2
          have c3 : w5.cell? ⟨b, 3, none⟩ = some (.int .u64 F.low.2) := H5.blk.cell 3
          have d2 : w5.frozen? ⟨b, 2, none⟩ = false := H5.blk.free 2
          have d3 : w5.frozen? ⟨b, 3, none⟩ = false := H5.blk.free 3
          obtain ⟨r0, r1, _, _⟩ := g8.out.cells2
          have hnb : Hid (W.heap.size + 1 ≠ b) := Lib.hid (by have := HC.out.M.blk.lt; omega)
          have c4 : ((w5.setCell ⟨b, 2, none⟩ (.int .u64 (lowI e F key F.keys.length).1)).setCell ⟨b, 3, none⟩ (.int .u64 (lowI e F key F.keys.length).2)).cell? ⟨b, 4, none⟩ = some (.int .u64 F.top.1) := ((H5.blk.set 2 _).set 3 _).cell 4
          have c5 : ((w5.setCell ⟨b, 2, none⟩ (.int .u64 (lowI e F key F.keys.length).1)).setCell ⟨b, 3, none⟩ (.int .u64 (lowI e F key F.keys.length).2)).cell? ⟨b, 5, none⟩ = some (.int .u64 F.top.2) := ((H5.blk.set 2 _).set 3 _).cell 5
          have d4 : ((w5.setCell ⟨b, 2, none⟩ (.int .u64 (lowI e F key F.keys.length).1)).setCell ⟨b, 3, none⟩ (.int .u64 (lowI e F key F.keys.length).2)).frozen? ⟨b, 4, none⟩ = false := ((H5.blk.set 2 _).set 3 _).free 4
          have d5 : ((w5.setCell ⟨b, 2, none⟩ (.int .u64 (lowI e F key F.keys.length).1)).setCell ⟨b, 3, none⟩ (.int .u64 (lowI e F key F.keys.length).2)).frozen? ⟨b, 5, none⟩ = false := ((H5.blk.set 2 _).set 3 _).free 5
          obtain ⟨r2, r3, _, _⟩ := ((g9.out.far (a := ⟨b, 2, none⟩) (.int .u64 (lowI e F key F.keys.length).1) hnb.out).far (a := ⟨b, 3, none⟩) (.int .u64 (lowI e F key F.keys.length).2) hnb.out).cells2
          clear H5
          go_wp2_with fail
          go_ret2
          exact ⟨by rw [EA.out]; rfl, HC.out.took R2.out.bel HA5.out HN2.out⟩
/-- The reference's Add, whole. -/
theorem ref_AddO {w : World} {b : Nat} {e : Int} {F : Fit} {S : Nat → Prop} (key : Int) (hk : u64ok key) (big : F.keys.length < 17592186044416) (H : RefO w b e F S) :
    Calls Try.prog 18 #[.pointer (some ⟨b, 0, none⟩), .int .u64 key] w fun e' w' => e' = .returned (.tuple #[.bool (F.add e key).1.1, .int .i64 (F.add e key).1.2]) ∧ RefAddO w b e F S key w' := by
  obtain ⟨v, M, Q, rfl⟩ := H
  by_cases hl : F.late key = true
  · obtain ⟨_, _, S⟩ := Q
    refine (ref_add_late M hl (by have := S.e0; omega) S.e1 big).mono ?_
    rintro e' w' ⟨rfl, rfl⟩
    refine ⟨by rw [Fit.add_late hl], ?_⟩
    rw [RefAddO, Fit.add_late hl]
    exact ⟨_, ⟨v, M, ⟨_, _, S⟩, rfl⟩, Chg.refl _ _, fun k h => .inl h⟩
  · exact ref_add_ac ⟨M, Q, hk, by simpa using hl, big⟩
end Go.Proofs.Ytanhhgifcolfaaa
