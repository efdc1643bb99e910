/-
  The longest region of within only reads, in the order in which it stands.
-/
import Derived.Test.YtnccgpdniigekaaQG28
import Derived.KernelRfl
import Derived.Test.YtnccgpdniigekaaProg
import Derived.Deep.Quiet
import Derived.Test.YtnccgpdniigekaaQG40
namespace Go.Proofs.Ytnccgpdniigekaa
/-- The operations of the region of number n. -/
def opsAt (n : Nat) : Code → List Oper
  | .region k ops _ => if k = n then ops.toList else []
  | .seq a b => match opsAt n a with
    | [] => opsAt n b
    | c => c
  | .cond _ a b => match opsAt n a with
    | [] => opsAt n b
    | c => c
  | .block _ c => opsAt n c
  | .loop c => opsAt n c
  | .scope c => opsAt n c
  | _ => []
noncomputable def ops24 : List Oper := opsAt 24 (Try.f36.body.getD .skip)
theorem lex24 : Region.lexB .any ops24.toArray = true := by kernel_rfl
theorem lex24_of {l : List Oper} (h : l = ops24) : Region.lexB .any l.toArray = true := h ▸ lex24
end Go.Proofs.Ytnccgpdniigekaa
/-
  within: what was asked keeps to the path.
-/
namespace Go.Proofs.Ytnccgpdniigekaa
open Go.RowKit
set_option linter.unusedVariables false
set_option linter.unusedSimpArgs false
attribute [local go_sem high] run_store_float eqPr

/-- Pairs of one's own, read. -/
theorem pr_own {w : World} {base : Nat} {v : Value} {a : List (Nat × Nat)} (h : w.ownsRow base 94 2 v a.length (prs a)) : ∃ A c, v = .slice A a.length c ∧ (0 < a.length → ∃ g, A = some ⟨g, 0, none⟩ ∧ g < w.heap.size ∧ ∀ i, i < a.length → w.cell? ⟨g, i * 2, none⟩ = some (.int .i64 ((a.getD i (0, 0)).1 : Int)) ∧ w.cell? ⟨g, i * 2 + 1, none⟩ = some (.int .i64 ((a.getD i (0, 0)).2 : Int))) := by
  rcases h.2 with ⟨hv, h0⟩ | ⟨g, cap, cur, hv, hr⟩
  · exact ⟨none, 0, by rw [hv, h0], fun hn => by omega⟩
  · have hlt : g < w.heap.size := Blk.lt (t := 94) hr.2.1
    refine ⟨_, _, hv, fun _ => ⟨g, rfl, hlt, fun i hi => ?_⟩⟩
    obtain ⟨p0, p1⟩ := prs_get a i hi
    have c0 := World.ownsRow.cells h (g := g) (by rw [hv]; rfl) _ _ p0
    have c1 := World.ownsRow.cells h (g := g) (by rw [hv]; rfl) _ _ p1
    rw [Addr.add_mid, Nat.zero_add] at c0 c1
    exact ⟨c0, c1⟩
theorem segsL_get (K : List Int) (ll : List (List Sg)) (q : Int) {i : Nat} (hi : i < ll.length) : (segsL K ll q 0).getD i (0, 0) = (ll.length - i, slotAt K ll q (ll.length - 1 - i)) := by
  unfold segsL
  rw [List.getD_eq_getElem?_getD, List.getElem?_map, List.getElem?_range (by omega)]
  rfl
theorem lev_eq {n i k : Nat} (hi : i < n) (hk : k < n) (hn : n ≤ 4294967296) : IntKind.i64.wrap (((n - 1 - k : Nat) : Int) + 1) = ((n - k : Nat) : Int) ∧ ((((n - i : Nat) : Int) == ((n - k : Nat) : Int)) = decide (i = k)) := by
  refine ⟨by rw [IntWalk.i64_in _ (by omega)]; omega, ?_⟩
  by_cases h : i = k
  · rw [decide_eq_true h, beq_iff_eq]; omega
  · rw [decide_eq_false h, beq_eq_false_iff_ne]; omega
theorem get_pair {a : List (Nat × Nat)} {i : Nat} (hi : i < a.length) : a.getD i (0, 0) ∈ a := mem_getD (z := (0, 0)) hi rfl
theorem nodup_ne {a : List (Nat × Nat)} (h : a.Nodup) {i k : Nat} (hk : k < i) (hi : i < a.length) : a.getD k (0, 0) ≠ a.getD i (0, 0) := by
  have := List.pairwise_iff_getElem.1 h k i (by omega) hi hk
  rw [List.getD_eq_getElem?_getD, List.getD_eq_getElem?_getD, List.getElem?_eq_getElem hi, List.getElem?_eq_getElem (by omega : k < a.length)]
  exact this
theorem pair_ne {a b : Nat × Nat} (h : a ≠ b) : (((b.1 : Int) == (a.1 : Int)) = false) ∨ (((b.1 : Int) == (a.1 : Int)) = true ∧ ((b.2 : Int) == (a.2 : Int)) = false) := by
  by_cases h1 : a.1 = b.1
  · right
    refine ⟨by rw [beq_iff_eq]; omega, ?_⟩
    rw [beq_eq_false_iff_ne]
    intro e
    exact h (Prod.ext h1 (by omega))
  · left
    rw [beq_eq_false_iff_ne]; omega
theorem w_num {i n : Nat} (h : i < n) (hn : n ≤ 1000000000000) : (0 : Int) ≤ (i : Int) ∧ (i : Int) < (n : Int) ∧ wrap64 ((i : Int) + 1) = (i : Int) + 1 := by
  refine ⟨by omega, by omega, by unfold wrap64; omega⟩
theorem num_eq {i k : Nat} (h : i = k) : i < k + 1 ∧ ¬ i < k := by omega
theorem num_gt {i k : Nat} (h : k < i) : ¬ i = k := by omega
theorem num_back {n L k : Nat} (hL : L < n) (h : n - 1 - L = k) : n - 1 - k = L := by omega
theorem num_in {n L : Nat} (hL : L < n) : n - 1 - L < n := by omega
theorem dec_step {i k : Nat} (h : ¬ i = k) : decide (i < k + 1) = decide (i < k) := by
  by_cases h1 : i < k
  · rw [decide_eq_true h1, decide_eq_true (by omega)]
  · rw [decide_eq_false h1, decide_eq_false (by omega)]
theorem lev_ne {n L k : Nat} (hL : L < n) (hk : k < n) (h : ¬ n - 1 - L = k) : (((L : Nat) : Int) == ((n - 1 - k : Nat) : Int)) = false := by rw [beq_eq_false_iff_ne]; omega
set_option maxHeartbeats 16000000 in
set_option maxRecDepth 100000 in
theorem within_any {w0 w : World} {p : Nat} {AK : Option Addr} {cK : Nat} {AL : Option Addr} {cL : Nat} {eps : Int} {K : List Int} {ll : List (List Sg)} {q : Int} {a : List (Nat × Nat)} (hR : RightL eps K ll) (hA : AskOk eps K ll q 0 a) (h : StS w0 p AK cK AL cL eps K ll a (segsL K ll q 0) w) {Av : Option Addr} {cv : Nat} (hV : ArgV w Av eps K ll q) :
    Calls Try.prog 36 #[.pointer (some ⟨p, 0, none⟩), .slice Av ll.length cv] w fun e w' => e = .returned (.bool true) ∧ Below w.heap.size w w' := by
  obtain ⟨av, sv, h⟩ := h
  obtain ⟨Aa, ca, rfl, ra⟩ := pr_own h.ra
  obtain ⟨As, cs, rfl, rs⟩ := pr_own h.rs
  rw [segsL_len, Nat.sub_zero] at rs
  obtain ⟨c0, c1, c2, c3, c4, c5⟩ := h.cells
  rw [segsL_len, Nat.sub_zero] at c4
  have PC : Hid (∀ wx, Below w.heap.size w wx → wx.cell? ⟨p, 2, none⟩ = some (.slice AL ll.length cL) ∧ wx.cell? ⟨p, 3, none⟩ = some (.slice Aa a.length ca) ∧ wx.cell? ⟨p, 4, none⟩ = some (.slice As ll.length cs) ∧ wx.cell? ⟨p, 5, none⟩ = some (.bool false)) := Lib.hid fun wx k =>
    ⟨(k.cell (p := ⟨p, 2, none⟩) h.blk.lt).trans c2, (k.cell (p := ⟨p, 3, none⟩) h.blk.lt).trans c3, (k.cell (p := ⟨p, 4, none⟩) h.blk.lt).trans c4, (k.cell (p := ⟨p, 5, none⟩) h.blk.lt).trans c5⟩
  have RA := Lib.hid ra
  have RS := Lib.hid rs
  have HV := Lib.hid hV
  have HAK := Lib.hid hA
  have HR := Lib.hid hR
  have SG := Lib.hid (fun wx (k : Below w.heap.size w wx) => h.segs.below (below_next h.bel k))
  have HL := Lib.hid hR.nl
  have HAL : Hid (a.length ≤ 1000000000000) := Lib.hid (by have := hA.short hR.e1 hR.e2 hR.nl; omega)
  clear h ra rs c0 c1 c2 c3 c4 c5 hV hA hR
  go_enter Try.func36, Try.ntmps36
  obtain ⟨x2, x3, x4, x5⟩ := PC.out _ (Below.refl _ _)
  have z0 : ¬ (ll.length : Int) < (ll.length : Int) := Int.lt_irrefl _
  go_wp2_with fail
  clear x2 x3 x4 x5
  go_loopw [5] (fun x wr => ∃ i : Nat, i ≤ ll.length ∧ x = .int .i64 i ∧ Hid (Below w.heap.size w wr)) (fun x _ => ll.length - (intOf x).toNat)
  case atStart => exact ⟨0, Nat.zero_le _, rfl, Lib.hid (Below.refl _ _)⟩
  case round =>
    obtain ⟨i, hi', rfl, B⟩ := hrel
    obtain ⟨x2, x3, x4, x5⟩ := PC.out _ B.out
    by_cases hlt : i < ll.length
    · obtain ⟨n1, n2, n3⟩ := w_num hlt (Nat.le_trans HL.out (by decide))
      obtain ⟨gs, rfl, hgs, hsc⟩ := RS.out (Nat.lt_of_le_of_lt (Nat.zero_le _) hlt)
      have SC : Hid (∀ wx, Below w.heap.size w wx → ∀ j, j < ll.length → wx.cell? ⟨gs, j * 2, none⟩ = some (.int .i64 ((ll.length - j : Nat) : Int)) ∧ wx.cell? ⟨gs, j * 2 + 1, none⟩ = some (.int .i64 (slotAt K ll q (ll.length - 1 - j) : Nat))) := Lib.hid fun wx k j hj => by
        obtain ⟨d0, d1⟩ := hsc j hj
        rw [segsL_get K ll q hj] at d0 d1
        exact ⟨(k.cell (p := ⟨gs, j * 2, none⟩) hgs).trans d0, (k.cell (p := ⟨gs, j * 2 + 1, none⟩) hgs).trans d1⟩
      have HLT := Lib.hid hlt
      clear hsc hgs
      go_wp2_with fail
      go_loopw [6, 7] (fun t x wx => ∃ k : Nat, k ≤ ll.length ∧ x = .int .i64 k ∧ t = .bool (decide (i < k)) ∧ Hid (Below w.heap.size w wx)) (fun _ x _ => ll.length - (intOf x).toNat)
      case atStart => exact ⟨0, Nat.zero_le _, rfl, by rw [decide_eq_false (Nat.not_lt_zero _)], B⟩
      case round =>
        obtain ⟨wi, rfl⟩ : ∃ wi : World, wi = wr := ⟨_, rfl⟩
        obtain ⟨k, hk', rfl, rfl, J⟩ := hrel
        clear x2 x3 x4 x5
        obtain ⟨x2, x3, x4, x5⟩ := PC.out _ J.out
        by_cases hkl : k < ll.length
        · obtain ⟨k1, k2, k3⟩ := w_num hkl (Nat.le_trans HL.out (by decide))
          obtain ⟨g, o, rfl, a0, a1, _, _, _, _⟩ := (HV.out.below J.out).at_ hkl
          obtain ⟨s0, s1⟩ := SC.out _ J.out i HLT.out
          obtain ⟨e1, e2⟩ := lev_eq HLT.out hkl HL.out
          by_cases hik : i = k
          · have ST := Lib.hid (show decide (i < k + 1) = true from decide_eq_true (num_eq hik).1)
            rw [decide_eq_false (num_eq hik).2]
            rw [decide_eq_true hik] at e2
            subst hik
            have e3 : (((slotAt K ll q (ll.length - 1 - i) : Nat) : Int) == ((slotAt K ll q (ll.length - 1 - i) : Nat) : Int)) = true := by simp
            generalize ((ll.length - i : Nat) : Int) = v1 at *
            generalize ((ll.length - 1 - i : Nat) : Int) = v2 at *
            generalize ((slotAt K ll q (ll.length - 1 - i) : Nat) : Int) = v3 at *
            clear hkl
            go_wp2_with fail
            go_quiet (fail)
            go_wp2_with fail
            go_roundw
            case rel => exact ⟨i + 1, Nat.succ_le_of_lt HLT.out, (by first | rfl | (rw [k3]; rfl)), (by rw [ST.out]), Lib.hid (drewN_below J.out nq)⟩
            case measure => first | (rw [k3]; exact meas_next HLT.out) | exact meas_next HLT.out
          · have ST := Lib.hid (dec_step hik)
            rw [decide_eq_false hik] at e2
            have HKL := Lib.hid hkl
            obtain ⟨T, hT⟩ : ∃ T, decide (i < k) = T := ⟨_, rfl⟩
            rw [hT] at ST ⊢
            generalize ((ll.length - i : Nat) : Int) = v1 at *
            generalize ((ll.length - k : Nat) : Int) = v4 at *
            generalize ((ll.length - 1 - k : Nat) : Int) = v2 at *
            generalize ((slotAt K ll q (ll.length - 1 - i) : Nat) : Int) = v3 at *
            generalize ((slotAt K ll q (ll.length - 1 - k) : Nat) : Int) = v5 at *
            clear hkl hik hT
            cases T
            all_goals
              go_wp2_with fail
              go_quiet (fail)
              go_wp2_with fail
              go_roundw
              case rel => exact ⟨k + 1, Nat.succ_le_of_lt HKL.out, (by first | rfl | (rw [k3]; rfl)), (by rw [ST.out]), Lib.hid (drewN_below J.out nq)⟩
              case measure => first | (rw [k3]; exact meas_next HKL.out) | exact meas_next HKL.out
        · obtain rfl : k = ll.length := Nat.le_antisymm hk' (Nat.le_of_not_lt hkl)
          rw [decide_eq_true HLT.out]
          clear hkl
          go_wp2_with fail
          go_loopw [6, 8] (fun t x wx => ∃ k : Nat, k ≤ i ∧ x = .int .i64 k ∧ t = .bool true ∧ Hid (Below w.heap.size w wx)) (fun _ x _ => i - (intOf x).toNat)
          case atStart => exact ⟨0, Nat.zero_le _, rfl, rfl, J⟩
          case round =>
            obtain ⟨wk, rfl⟩ : ∃ wk : World, wk = wr := ⟨_, rfl⟩
            obtain ⟨k, hk', rfl, rfl, J2⟩ := hrel
            clear x2 x3 x4 x5
            obtain ⟨x2, x3, x4, x5⟩ := PC.out _ J2.out
            by_cases hki : k < i
            · have hkl : k < ll.length := Nat.lt_trans hki HLT.out
              obtain ⟨k1, k2, k3⟩ := w_num hkl (Nat.le_trans HL.out (by decide))
              have k4 : (k : Int) < (i : Int) := Int.ofNat_lt.2 hki
              obtain ⟨s0, s1⟩ := SC.out _ J2.out i HLT.out
              obtain ⟨t0, t1⟩ := SC.out _ J2.out k hkl
              have e2 := (lev_eq HLT.out hkl HL.out).2
              rw [decide_eq_false (num_gt hki)] at e2
              have HKI := Lib.hid hki
              generalize ((ll.length - i : Nat) : Int) = v1 at *
              generalize ((ll.length - k : Nat) : Int) = v4 at *
              generalize ((slotAt K ll q (ll.length - 1 - i) : Nat) : Int) = v3 at *
              generalize ((slotAt K ll q (ll.length - 1 - k) : Nat) : Int) = v5 at *
              clear hkl hki
              go_wp2_with fail
              go_quiet (fail)
              go_wp2_with fail
              go_roundw
              case rel => exact ⟨k + 1, HKI.out, (by first | rfl | (rw [k3]; rfl)), rfl, Lib.hid (drewN_below J2.out nq)⟩
              case measure => first | (rw [k3]; exact meas_next HKI.out) | exact meas_next HKI.out
            · obtain rfl : k = i := Nat.le_antisymm hk' (Nat.le_of_not_lt hki)
              have k4 : ¬ (k : Int) < (k : Int) := Int.lt_irrefl _
              clear hki
              go_wp2_with fail
              go_roundw
              case rel => exact ⟨k + 1, Nat.succ_le_of_lt HLT.out, (by first | rfl | (rw [n3]; rfl)), J2⟩
              case measure => first | (rw [n3]; exact meas_next HLT.out) | exact meas_next HLT.out
    · obtain rfl : i = ll.length := Nat.le_antisymm hi' (Nat.le_of_not_lt hlt)
      have i1 : ¬ (ll.length : Int) < (ll.length : Int) := Int.lt_irrefl _
      clear hlt
      go_wp2_with fail
      clear x2 x3 x4 x5
      go_loopw [9] (fun x wr => ∃ i : Nat, i ≤ a.length ∧ x = .int .i64 i ∧ Hid (Below w.heap.size w wr)) (fun x _ => a.length - (intOf x).toNat)
      case atStart => exact ⟨0, Nat.zero_le _, rfl, B⟩
      case round =>
        obtain ⟨wo, rfl⟩ : ∃ wo : World, wo = wr := ⟨_, rfl⟩
        obtain ⟨i, hi', rfl, C⟩ := hrel
        clear B
        obtain ⟨x2, x3, x4, x5⟩ := PC.out _ C.out
        by_cases hlt : i < a.length
        · obtain ⟨n1, n2, n3⟩ := w_num hlt HAL.out
          obtain ⟨gs, rfl, hgs, hsc⟩ := RA.out (Nat.lt_of_le_of_lt (Nat.zero_le _) hlt)
          have SC : Hid (∀ wx, Below w.heap.size w wx → ∀ j, j < a.length → wx.cell? ⟨gs, j * 2, none⟩ = some (.int .i64 ((a.getD j (0, 0)).1 : Int)) ∧ wx.cell? ⟨gs, j * 2 + 1, none⟩ = some (.int .i64 ((a.getD j (0, 0)).2 : Int))) := Lib.hid fun wx k j hj =>
            ⟨(k.cell (p := ⟨gs, j * 2, none⟩) hgs).trans (hsc j hj).1, (k.cell (p := ⟨gs, j * 2 + 1, none⟩) hgs).trans (hsc j hj).2⟩
          have HLT := Lib.hid hlt
          have INN := Lib.hid (HAK.out.inn _ (get_pair hlt))
          obtain ⟨L, hL⟩ : ∃ L, (a.getD i (0, 0)).1 = L := ⟨_, rfl⟩
          obtain ⟨ta, hta⟩ : ∃ ta, (a.getD i (0, 0)).2 = ta := ⟨_, rfl⟩
          rw [hL, hta] at INN
          have HLL := Lib.hid (And.intro hL hta)
          obtain ⟨mm, hmm⟩ : ∃ mm, ll.length - 1 - L = mm := ⟨_, rfl⟩
          have HMM := Lib.hid hmm
          have HML : Hid (mm < ll.length) := Lib.hid (by rw [← hmm]; exact num_in INN.out.2.1)
          clear hsc hgs hL hta hmm
          go_wp2_with fail
          go_loopw [10, 11] (fun t x wx => ∃ k : Nat, k ≤ ll.length ∧ x = .int .i64 k ∧ t = .bool (decide (mm < k)) ∧ Hid (Below w.heap.size w wx)) (fun _ x _ => ll.length - (intOf x).toNat)
          case atStart => exact ⟨0, Nat.zero_le _, rfl, by rw [decide_eq_false (Nat.not_lt_zero _)], C⟩
          case round =>
            obtain ⟨wi, rfl⟩ : ∃ wi : World, wi = wr := ⟨_, rfl⟩
            obtain ⟨k, hk', rfl, rfl, J⟩ := hrel
            clear x2 x3 x4 x5
            obtain ⟨x2, x3, x4, x5⟩ := PC.out _ J.out
            by_cases hkl : k < ll.length
            · obtain ⟨k1, k2, k3⟩ := w_num hkl (Nat.le_trans HL.out (by decide))
              obtain ⟨g, o, rfl, a0, a1, _, a3, a4, _⟩ := (HV.out.below J.out).at_ hkl
              obtain ⟨s0, s1⟩ := SC.out _ J.out i HLT.out
              rw [HLL.out.1] at s0
              rw [HLL.out.2] at s1
              by_cases hik : mm = k
              · have ST := Lib.hid (show decide (mm < k + 1) = true from decide_eq_true (num_eq hik).1)
                rw [decide_eq_false (num_eq hik).2]
                have hkL : ll.length - 1 - k = L := num_back INN.out.2.1 (HMM.out.trans hik)
                rw [hkL] at a0 a1 a3 a4
                have e2 : ((L : Int) == (L : Int)) = true := by simp
                obtain ⟨q1, q2, q3, q4, q5⟩ := INN.out
                have ST2 := HR.out.stands q q2
                obtain ⟨b, o2, rfl, hb, hc⟩ := SG.out _ J.out (Nat.lt_of_le_of_lt (Nat.zero_le _) q2)
                obtain ⟨A2, c2, y0, hs2⟩ := hc L q2
                obtain ⟨b2, o3, rfl, hb2, hc2⟩ := hs2 (Nat.lt_of_le_of_lt (Nat.zero_le _) ST2.lt)
                obtain ⟨_, _, _, _, y4⟩ := hc2 _ ST2.lt
                have y5 : wi.cell? ⟨b2, o3 + slotAt K ll q L * 5 + 4, none⟩ = some (.int .i64 (sgAt K ll q L).up) := y4
                have e3 : decide (loI eps K ll q L ≤ (ta : Int)) = true := decide_eq_true q3
                have e4 : decide ((ta : Int) ≤ hiI eps K ll q L) = true := decide_eq_true q4
                have e5 : decide ((ta : Int) < (sgAt K ll q L).up) = true := decide_eq_true q5
                have e6 : (0 : Int) ≤ (L : Int) := Int.natCast_nonneg L
                have e7 : (L : Int) < (ll.length : Int) := Int.ofNat_lt.2 q2
                have e8 : (0 : Int) ≤ ((slotAt K ll q L : Nat) : Int) := Int.natCast_nonneg _
                have e9 : ((slotAt K ll q L : Nat) : Int) < ((ll.getD L []).length : Int) := Int.ofNat_lt.2 ST2.lt
                have HKL := Lib.hid hkl
                clear y4 hs2 hc2 hc hb hb2 ST2 q1 q2 q3 q4 q5 hkl hik hkL
                generalize loI eps K ll q L = v1 at *
                generalize hiI eps K ll q L = v2 at *
                generalize (sgAt K ll q L).up = v3 at *
                generalize slotAt K ll q L = v4 at *
                generalize (ll.getD L []).length = v5 at *
                go_wp2_with fail
                refine wp_region_quiet_lit (by kernel_rfl) (lex24_of (by kernel_rfl)) ?_
                repeat (go_big_quiet_step (fail))
                refine wpQuiet_nil ?_
                rintro _ ⟨nq, rfl⟩
                go_wp2_with fail
                go_roundw
                case rel => exact ⟨k + 1, Nat.succ_le_of_lt HKL.out, (by first | rfl | (rw [k3]; rfl)), (by rw [ST.out]), Lib.hid (drewN_below J.out nq)⟩
                case measure => first | (rw [k3]; exact meas_next HKL.out) | exact meas_next HKL.out
              · have ST := Lib.hid (dec_step hik)
                have e2 := lev_ne INN.out.2.1 hkl (fun h => hik (HMM.out.symm.trans h))
                have HKL := Lib.hid hkl
                obtain ⟨T, hT⟩ : ∃ T, decide (mm < k) = T := ⟨_, rfl⟩
                rw [hT] at ST ⊢
                generalize ((ll.length - 1 - k : Nat) : Int) = v2 at *
                generalize loI eps K ll q (ll.length - 1 - k) = v1 at *
                generalize hiI eps K ll q (ll.length - 1 - k) = v6 at *
                generalize ((slotAt K ll q (ll.length - 1 - k) : Nat) : Int) = v5 at *
                clear hkl hik hT
                cases T
                all_goals
                  go_wp2_with fail
                  refine wp_region_quiet_lit (by kernel_rfl) (lex24_of (by kernel_rfl)) ?_
                  repeat (go_big_quiet_step (fail))
                  refine wpQuiet_nil ?_
                  rintro _ ⟨nq, rfl⟩
                  go_wp2_with fail
                  go_roundw
                  case rel => exact ⟨k + 1, Nat.succ_le_of_lt HKL.out, (by first | rfl | (rw [k3]; rfl)), (by rw [ST.out]), Lib.hid (drewN_below J.out nq)⟩
                  case measure => first | (rw [k3]; exact meas_next HKL.out) | exact meas_next HKL.out
            · obtain rfl : k = ll.length := Nat.le_antisymm hk' (Nat.le_of_not_lt hkl)
              rw [decide_eq_true HML.out]
              clear hkl
              go_wp2_with fail
              go_loopw [10, 12] (fun t x wx => ∃ k : Nat, k ≤ i ∧ x = .int .i64 k ∧ t = .bool true ∧ Hid (Below w.heap.size w wx)) (fun _ x _ => i - (intOf x).toNat)
              case atStart => exact ⟨0, Nat.zero_le _, rfl, rfl, J⟩
              case round =>
                obtain ⟨wk, rfl⟩ : ∃ wk : World, wk = wr := ⟨_, rfl⟩
                obtain ⟨k, hk', rfl, rfl, J2⟩ := hrel
                clear x2 x3 x4 x5
                obtain ⟨x2, x3, x4, x5⟩ := PC.out _ J2.out
                by_cases hki : k < i
                · have hkl : k < a.length := Nat.lt_trans hki HLT.out
                  obtain ⟨k1, k2, k3⟩ := w_num hkl HAL.out
                  have k4 : (k : Int) < (i : Int) := Int.ofNat_lt.2 hki
                  obtain ⟨s0, s1⟩ := SC.out _ J2.out i HLT.out
                  obtain ⟨t0, t1⟩ := SC.out _ J2.out k hkl
                  have e2 := pair_ne (nodup_ne HAK.out.nd hki HLT.out)
                  have HKI := Lib.hid hki
                  generalize ((a.getD i (0, 0)).1 : Int) = v1 at *
                  generalize ((a.getD i (0, 0)).2 : Int) = v3 at *
                  generalize ((a.getD k (0, 0)).1 : Int) = v4 at *
                  generalize ((a.getD k (0, 0)).2 : Int) = v5 at *
                  clear hkl hki
                  rcases e2 with e2 | ⟨e2, e3⟩
                  all_goals
                    go_wp2_with fail
                    go_quiet (fail)
                    go_wp2_with fail
                    go_roundw
                    case rel => exact ⟨k + 1, HKI.out, (by first | rfl | (rw [k3]; rfl)), rfl, Lib.hid (drewN_below J2.out nq)⟩
                    case measure => first | (rw [k3]; exact meas_next HKI.out) | exact meas_next HKI.out
                · obtain rfl : k = i := Nat.le_antisymm hk' (Nat.le_of_not_lt hki)
                  have k4 : ¬ (k : Int) < (k : Int) := Int.lt_irrefl _
                  clear hki
                  go_wp2_with fail
                  go_roundw
                  case rel => exact ⟨k + 1, Nat.succ_le_of_lt HLT.out, (by first | rfl | (rw [n3]; rfl)), J2⟩
                  case measure => first | (rw [n3]; exact meas_next HLT.out) | exact meas_next HLT.out
        · obtain rfl : i = a.length := Nat.le_antisymm hi' (Nat.le_of_not_lt hlt)
          have i1 : ¬ (a.length : Int) < (a.length : Int) := Int.lt_irrefl _
          clear hlt
          go_wp2_with fail
          go_ret
          exact ⟨rfl, C.out⟩
end Go.Proofs.Ytnccgpdniigekaa
