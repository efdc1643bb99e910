/-
  The law CutFew.
-/
import Derived.Test.YtanhhgifcolfaaaCuFewP
namespace Go.Proofs.Ytanhhgifcolfaaa
open Go.RowKit
set_option linter.unusedVariables false
set_option linter.unusedSimpArgs false

/-- What the loop reads of the ends. -/
theorem few_at {m : Int} {outs : List Nat} {n : Nat} (hs : Spc m ((0 : Nat) : Int) outs) (hm : 1 ≤ m) (hf : lastN 0 outs < n) {i : Nat} (hi : i < (outs ++ [n]).length) :
    prevN 0 (outs ++ [n]) i < (outs ++ [n])[i] ∧ (i + 1 < (outs ++ [n]).length → (prevN 0 (outs ++ [n]) i : Int) + m ≤ (outs ++ [n])[i]) ∧ (outs ++ [n])[i] ≤ n ∧ prevN 0 (outs ++ [n]) (i + 1) = (outs ++ [n])[i] := by
  have hp : prevN 0 (outs ++ [n]) (i + 1) = (outs ++ [n])[i] := by
    simp only [prevN, Nat.add_sub_cancel, if_neg (Nat.succ_ne_zero i)]
    rw [List.getD_eq_getElem?_getD, List.getElem?_eq_getElem hi, Option.getD_some]
  have hpi : prevN 0 (outs ++ [n]) i = prevN 0 outs i := by
    cases i with
    | zero => rfl
    | succ i =>
      simp only [List.length_append, List.length_cons, List.length_nil] at hi
      simp only [prevN, Nat.add_sub_cancel, if_neg (Nat.succ_ne_zero i), List.getD_eq_getElem?_getD]
      rw [List.getElem?_append_left (by omega)]
  rw [hpi]
  by_cases h : i < outs.length
  · have e1 : (outs ++ [n])[i] = outs[i] := List.getElem_append_left h
    rw [e1]
    have h1 := hs.at i h
    have h2 : outs[i] ≤ n := by
      have hle : ∀ (l : List Nat) (p : Nat), Spc m (p : Int) l → ∀ i (h : i < l.length), l[i] ≤ lastN p l := by
        intro l
        induction l with
        | nil => intro p _ i h; simp at h
        | cons b r ih =>
          intro p hs i h
          have hb : b ≤ lastN b r := by
            have := hs.2.len
            have : 0 ≤ (r.length : Int) * m := Int.mul_nonneg (by omega) (by omega)
            omega
          cases i with
          | zero => exact hb
          | succ i => exact ih b hs.2 i (by simpa using h)
      have := hle outs 0 hs i h; omega
    refine ⟨by omega, fun _ => h1, h2, hp.trans e1⟩
  · have hil : i = outs.length := by simp at hi; omega
    subst hil
    have e1 : (outs ++ [n])[outs.length] = n := by simp
    rw [e1, lastN_prev]
    exact ⟨hf, fun h => by simp at h, Nat.le_refl _, hp.trans e1⟩
set_option maxHeartbeats 4000000 in
set_option maxRecDepth 100000 in
theorem few_walk (A : Option Addr) (c : Nat) (L : List Int) (hL : U64s L) (hn : L.length ≤ 17592186044416) (eps : Int) (w : World) (hA : ArgU w A L) :
    Calls Try.prog 10 #[.slice A L.length c, .int .i64 eps] w fun e w' => e = .returned (.bool true) ∧ Below w.heap.size w w' := by
  have SH := cshown_any w
  have HR := Lib.hid (fun (w' : World) (k : Below w.heap.size w w') => right_any eps A c L hL hn w' (hA.below k))
  have HEn := Lib.hid (fun (h : Good eps L) (w' : World) (k : Below w.heap.size w w') => ends_arg eps h.1 h.2.1 A c L hL hn h.2.2 w' (hA.below k))
  have HN := Lib.hid hn
  clear hL hA hn
  go_enter Try.func10, Try.ntmps10
  go_wp2_with fail
  refine SH.mono ?_
  rintro e w1 ⟨rfl, b1⟩
  have R1 := HR.out _ b1
  have HB1 := Lib.hid b1
  clear SH HR b1
  go_wp2_with fail
  refine R1.mono ?_
  rintro e w2 ⟨t, rfl, ht, b2⟩
  have HB2 := Lib.hid (below_next HB1.out b2)
  have HT := Lib.hid ht
  clear R1 HB1 b2 ht
  cases t with
  | false =>
    go_wp2_with fail
    go_ret
    exact ⟨rfl, HB2.out⟩
  | true =>
    have HG := Lib.hid (HT.out.1 rfl)
    have E1 := HEn.out HG.out _ HB2.out
    clear HT HEn
    go_wp2_with fail
    refine E1.mono ?_
    rintro e w3 ⟨A', c', rfl, N3, b3⟩
    have HB3 := Lib.hid (below_next HB2.out b3)
    clear E1 HB2 b3
    by_cases h0 : L.length = 0
    · have hz : endsL (eps - 1) L = [] := by rw [endsL, if_pos h0]
      rw [hz]
      have g0 : ((L.length : Int) == 0) = true := by simp [h0]
      clear h0 hz N3
      go_wp2_with fail
      go_ret
      exact ⟨rfl, HB3.out⟩
    · obtain ⟨outs, hends, hs, hf, hlen⟩ := few (e := eps - 1) (by have := HG.out.1; omega) HG.out.2.2 (by omega)
      rw [hends] at N3 ⊢
      have he1 := HG.out.1
      have he2 := HG.out.2.1
      have hNn := HN.out
      have HN3 := Lib.hid N3
      have HS := Lib.hid (And.intro hs hf)
      have hm1 : (outs.length : Int) ≤ ((L.length : Int) - 1).tdiv (2 * eps - 1) := by
        rw [Int.tdiv_eq_ediv_of_nonneg (by omega)]
        exact (Int.le_ediv_iff_mul_le (by omega)).2 (by rw [show 2 * eps - 1 = 2 * (eps - 1) + 1 from by omega]; exact hlen)
      have hm2 : ((L.length : Int) - 1).tdiv (2 * eps - 1) ≤ 17592186044416 := by
        rw [Int.tdiv_eq_ediv_of_nonneg (by omega)]
        have := Int.ediv_le_self (a := (L.length : Int) - 1) (2 * eps - 1) (by omega); omega
      obtain ⟨q, hq⟩ : ∃ q, ((L.length : Int) - 1).tdiv (2 * eps - 1) = q := ⟨_, rfl⟩
      rw [hq] at hm1 hm2
      obtain ⟨b, o, rfl, hbl, hcl⟩ := N3 (by simp)
      have hlast : w3.cell? ⟨b, o + outs.length, none⟩ = some (.int .i64 (L.length : Int)) := by
        have := hcl outs.length (by simp)
        simpa using this
      have hcell := Lib.hid hcl
      have g0 : ((L.length : Int) == 0) = false := beq_eq_false_iff_ne.2 (by omega)
      have g1 : decide (1 + q < (outs.length : Int) + 1) = false := by simp; omega
      have g2 : ((2 * eps - 1 : Int) == 0) = false := beq_eq_false_iff_ne.2 (by omega)
      have g3 : (2 * eps - 1 : Int) ≠ 0 := by omega
      have g4 : ((outs.length : Int) + 1 == 0) = false := beq_eq_false_iff_ne.2 (by omega)
      have w4 : IntKind.i64.wrap q = q := IntWalk.i64_in _ (by omega)
      have w5 : IntKind.i64.wrap (1 + q) = 1 + q := IntWalk.i64_in _ (by omega)
      have w6 : IntKind.i64.wrap ((outs.length : Int) + 1 - 1) = (outs.length : Int) := by rw [show (outs.length : Int) + 1 - 1 = outs.length from by omega]; exact IntWalk.i64_in _ (by omega)
      have w7 : IntKind.i64.wrap (outs.length : Int) = (outs.length : Int) := IntWalk.i64_in _ (by omega)
      have ho : (outs.length : Int) ≤ 17592186044416 := by omega
      clear hends hs hf hlen h0 hcl N3
      simp only [List.length_append, List.length_cons, List.length_nil]
      go_wp2_with fail
      clear hlast g1 g2 g3 g4 w4 w5 w6 w7 hq hm1 hm2 g0
      go_loopw [10, 11] (fun x10 x11 wr => ∃ i : Nat, i ≤ outs.length + 1 ∧ x10 = .int .i64 (prevN 0 (outs ++ [L.length]) i : Int) ∧ x11 = .int .i64 i ∧ w3 = wr) (fun _ x _ => outs.length + 1 - (intOf x).toNat)
      case atStart => exact ⟨0, by omega, rfl, rfl, rfl⟩
      case round =>
        obtain ⟨i, hi, rfl, rfl, rfl⟩ := hrel
        by_cases hlt : i < outs.length + 1
        · have hil : i < (outs ++ [L.length]).length := by simp; omega
          obtain ⟨f1, f2, f3, f4⟩ := few_at HS.out.1 (by omega) HS.out.2 hil
          have hc := hcell.out i hil
          obtain ⟨v, hv⟩ : ∃ v, (outs ++ [L.length])[i] = v := ⟨_, rfl⟩
          obtain ⟨p, hp⟩ : ∃ p, prevN 0 (outs ++ [L.length]) i = p := ⟨_, rfl⟩
          rw [hv] at f1 f2 f3 f4 hc
          rw [hp] at f1 f2 ⊢
          have HF4 := Lib.hid f4
          have i1 : (i : Int) < (outs.length : Int) + 1 := by omega
          have g1 : decide ((v : Int) ≤ (p : Int)) = false := by simp; omega
          have g1' : ¬ v ≤ p := by omega
          have hv2 : (v : Int) ≤ 17592186044416 := by omega
          have hp2 : (p : Int) ≤ 17592186044416 := by omega
          have g5 : decide ((i : Int) < (outs.length : Int) + 1) = true := by simp; omega
          have HI := Lib.hid hi
          simp only [List.length_append, List.length_cons, List.length_nil] at f2
          by_cases h2 : i < outs.length
          · have g2 : decide ((i : Int) + 1 < (outs.length : Int) + 1) = true := by simp; omega
            have g3 : decide ((v : Int) - (p : Int) < 2 * eps - 1) = false := by have := f2 (by omega); simp; omega
            clear f1 f2 f3 f4 hv hp hil hi
            go_wp2_with fail
            go_roundw
            case rel => exact ⟨i + 1, by omega, by rw [HF4.out], by go_num, trivial⟩
            case measure => simp [intOf]; omega
          · have g2 : decide ((i : Int) + 1 < (outs.length : Int) + 1) = false := by simp; omega
            clear f1 f2 f3 f4 hv hp hil hi
            go_wp2_with fail
            go_roundw
            case rel => exact ⟨i + 1, by omega, by rw [HF4.out], by go_num, trivial⟩
            case measure => simp [intOf]; omega
        · have g5 : decide ((i : Int) < (outs.length : Int) + 1) = false := by simp; omega
          go_wp2_with fail
          go_ret
          exact ⟨rfl, HB3.out⟩
end Go.Proofs.Ytanhhgifcolfaaa
