/-
  The statements' helpers: same, right; the examples at the head.
-/
import Derived.Test.YtanhhgifcolfaaaQCuEnds
namespace Go.Proofs.Ytanhhgifcolfaaa
open Go.RowKit
set_option linter.unusedVariables false
set_option linter.unusedSimpArgs false

/-- The slice reads as these numbers. -/
def ArgN (w : World) (A : Option Addr) (l : List Nat) : Prop := 0 < l.length → ∃ b o, A = some ⟨b, o, none⟩ ∧ b < w.heap.size ∧ ∀ i (h : i < l.length), w.cell? ⟨b, o + i, none⟩ = some (.int .i64 (l[i] : Int))
theorem ArgN.below {w w' : World} {A : Option Addr} {l : List Nat} (h : ArgN w A l) (k : Below w.heap.size w w') : ArgN w' A l := fun hn => by
  obtain ⟨b, o, hA, hb, hc⟩ := h hn
  exact ⟨b, o, hA, Nat.lt_of_lt_of_le hb k.size, fun i hi => (k.cell (p := ⟨b, _, none⟩) hb).trans (hc i hi)⟩
theorem ArgN.at {w : World} {A : Option Addr} {l : List Nat} (h : ArgN w A l) {i : Nat} (hi : i < l.length) : ∃ b o, A = some ⟨b, o, none⟩ ∧ b < w.heap.size ∧ w.cell? ⟨b, o + i, none⟩ = some (.int .i64 (l[i] : Int)) := by
  obtain ⟨b, o, hA, hb, hc⟩ := h (by omega)
  exact ⟨b, o, hA, hb, hc i hi⟩
theorem Ints.arg {w : World} {v : Value} {l : List Nat} (h : Ints w v l) : ∃ A c, v = .slice A l.length c ∧ ArgN w A l ∧ l.length ≤ 17592186044416 ∨ l.length > 17592186044416 := by
  rcases Nat.lt_or_ge 17592186044416 l.length with k | k
  · exact ⟨none, 0, .inr k⟩
  · rcases h.2 with ⟨hv, h0⟩ | ⟨g, cap, cur, hv, hr⟩
    · exact ⟨none, 0, .inl ⟨by rw [hv, h0], fun h => by omega, k⟩⟩
    · have hlt : g < w.heap.size := Blk.lt (t := 3) hr.2.1
      refine ⟨_, _, .inl ⟨hv, fun _ => ⟨g, 0, rfl, hlt, fun i hi => ?_⟩, k⟩⟩
      have hc := World.ownsRow.cells h (g := g) (by rw [hv]; rfl) i (.int .i64 (l[i] : Int)) (by simp [List.getElem?_eq_getElem hi])
      rw [Addr.add_mid] at hc
      exact hc
theorem endsL_len {e : Int} (he : 0 ≤ e) (L : List Int) : (endsL e L).length ≤ L.length := by
  unfold endsL
  split
  · simp
  · have := cutS_len he L (L.length - 1)
    rw [show L.length - 1 + 1 = L.length from by omega] at this
    simp only [List.length_append, List.length_cons, List.length_nil]; omega
theorem ends_arg (eps : Int) (h1 : 2 ≤ eps) (h2 : eps ≤ 64) (A : Option Addr) (c : Nat) (L : List Int) (hL : U64s L) (hn : L.length ≤ 17592186044416) (hu : L.Pairwise (· < ·)) (w : World) (hA : ArgU w A L) :
    Calls Try.prog 30 #[.slice A L.length c, .int .i64 eps] w fun e w' => ∃ A' c', e = .returned (.tuple #[.slice A' (endsL (eps - 1) L).length c', .int .i64 0]) ∧ ArgN w' A' (endsL (eps - 1) L) ∧ Below w.heap.size w w' := by
  refine (ends_good eps h1 h2 A c L hL hn hu w hA).mono ?_
  rintro e w' ⟨v, rfl, hi, _, hb⟩
  have hl := endsL_len (e := eps - 1) (by omega) L
  obtain ⟨A', c', h | h⟩ := hi.arg
  · obtain ⟨rfl, ha, _⟩ := h
    exact ⟨A', c', rfl, ha, hb⟩
  · omega
theorem take_eq_step' {l m : List Nat} {i : Nat} (h1 : i < l.length) (h2 : i < m.length) (h : l.take i = m.take i) (he : l[i] = m[i]) : l.take (i + 1) = m.take (i + 1) := by
  rw [List.take_succ_eq_append_getElem h1, List.take_succ_eq_append_getElem h2, h, he]
set_option maxHeartbeats 1000000 in
theorem same_any (l m : List Nat) (A B : Option Addr) (c d : Nat) (hlen : l.length ≤ 4611686018427387904) (w : World) (h1 : ArgN w A l) (h2 : ArgN w B m) :
    Calls Try.prog 32 #[.slice A l.length c, .slice B m.length d] w fun e w' => e = .returned (.bool (decide (l = m))) ∧ Below w.heap.size w w' := by
  have H1 := Lib.hid h1
  have H2 := Lib.hid h2
  clear h1 h2
  by_cases hl : l.length = m.length
  · have HL := Lib.hid hl
    have hlb : (((l.length : Nat) : Int) != (m.length : Int)) = false := by simp [hl]
    clear hl
    go_enter Try.func32, Try.ntmps32
    go_wp2
    go_loopw [5] (fun x wr => ∃ i : Nat, i ≤ l.length ∧ x = .int .i64 i ∧ Hid (l.take i = m.take i) ∧ Hid (Below w.heap.size w wr)) (fun x _ => l.length - (intOf x).toNat)
    case atStart => exact ⟨0, Nat.zero_le _, rfl, Lib.hid rfl, Lib.hid (Below.refl _ _)⟩
    case round =>
      obtain ⟨i, hi, rfl, HT, HB⟩ := hrel
      by_cases hlt : i < l.length
      · have hlt2 : i < m.length := by have := HL.out; omega
        obtain ⟨b1, o1, rfl, hb1, c1⟩ := H1.out.at hlt
        obtain ⟨b2, o2, rfl, hb2, c2⟩ := H2.out.at hlt2
        have z1 : wr.cell? ⟨b1, o1 + i, none⟩ = some (.int .i64 (l[i] : Int)) := (HB.out.cell (p := ⟨b1, _, none⟩) hb1).trans c1
        have z2 : wr.cell? ⟨b2, o2 + i, none⟩ = some (.int .i64 (m[i] : Int)) := (HB.out.cell (p := ⟨b2, _, none⟩) hb2).trans c2
        have i2 : (i : Int) < (m.length : Int) := by omega
        have i1 : (i : Int) < (l.length : Int) := by omega
        obtain ⟨x, hx⟩ : ∃ x, l[i] = x := ⟨_, rfl⟩
        obtain ⟨y, hy⟩ : ∃ y, m[i] = y := ⟨_, rfl⟩
        have HX := Lib.hid (And.intro hx hy)
        rw [hx] at z1
        rw [hy] at z2
        clear hx hy c1 c2
        by_cases hxy : x = y
        · have g1 : ((x : Int) != (y : Int)) = false := by simp [hxy]
          have HN : Hid (l.take (i + 1) = m.take (i + 1)) := Lib.hid (take_eq_step' hlt hlt2 HT.out (by rw [HX.out.1, HX.out.2, hxy]))
          clear hxy
          go_wp2_with fail
          go_quiet (fail)
          go_wp2_with fail
          go_roundw
          case rel => exact ⟨i + 1, by omega, by go_num, HN, Lib.hid (drewN_below HB.out _)⟩
          case measure => simp [intOf]; omega
        · have g1 : ((x : Int) != (y : Int)) = true := bne_iff_ne.2 (by omega)
          have HN : Hid (decide (l = m) = false) := Lib.hid (by
            rw [decide_eq_false_iff_not]; rintro rfl; exact hxy (HX.out.1.symm.trans HX.out.2))
          clear hxy
          go_wp2_with fail
          go_quiet (fail)
          go_wp2_with fail
          go_ret
          exact ⟨by rw [HN.out]; rfl, drewN_below HB.out _⟩
      · have HN : Hid (decide (l = m) = true) := Lib.hid (by
          have h := HT.out
          have hi' : i = l.length := by omega
          rw [hi', List.take_length, HL.out, List.take_length] at h
          simp [h])
        go_wp2_with fail
        go_ret
        exact ⟨by rw [HN.out]; rfl, HB.out⟩
  · have hlb : (((l.length : Nat) : Int) != (m.length : Int)) = true := by simp; omega
    have HN : Hid (decide (l = m) = false) := Lib.hid (by rw [decide_eq_false_iff_not]; rintro rfl; exact hl rfl)
    clear hl
    go_enter Try.func32, Try.ntmps32
    go_wp2
    go_ret
    exact ⟨by rw [HN.out]; rfl, Below.refl _ _⟩
/-- Whether keys rise, and an eps may be. -/
def Good (eps : Int) (L : List Int) : Prop := 2 ≤ eps ∧ eps ≤ 64 ∧ L.Pairwise (· < ·)
set_option maxHeartbeats 1000000 in
theorem right_any (eps : Int) (A : Option Addr) (c : Nat) (L : List Int) (hL : U64s L) (hn : L.length ≤ 17592186044416) (w : World) (hA : ArgU w A L) :
    Calls Try.prog 33 #[.slice A L.length c, .int .i64 eps] w fun e w' => ∃ t, e = .returned (.tuple #[.bool t, .bool true]) ∧ (t = true ↔ Good eps L) ∧ Below w.heap.size w w' := by
  by_cases hb : eps < 2 ∨ 64 < eps
  · have EB := ends_bad eps hb A L.length c w
    by_cases h2 : eps < 2
    · go_enter Try.func33, Try.ntmps33
      go_wp2_with fail
      refine EB.mono ?_
      rintro e w1 ⟨rfl, rfl⟩
      go_wp2_with fail
      go_ret2
      exact ⟨false, rfl, by unfold Good; simp; omega, Below.refl _ _⟩
    · have h3 : 64 < eps := by omega
      go_enter Try.func33, Try.ntmps33
      go_wp2_with fail
      refine EB.mono ?_
      rintro e w1 ⟨rfl, rfl⟩
      go_wp2_with fail
      go_ret2
      exact ⟨false, rfl, by unfold Good; simp; omega, Below.refl _ _⟩
  · have h1 : ¬ eps < 2 := by omega
    have h2 : ¬ 64 < eps := by omega
    have RR := Lib.hid (fun (w' : World) (k : Below w.heap.size w w') => ref_Rising A c L hn w' (hA.below k))
    by_cases hu : L.Pairwise (· < ·)
    · have EG := ends_arg eps (by omega) (by omega) A c L hL hn hu w hA
      have HG : Hid (Good eps L) := Lib.hid ⟨by omega, by omega, hu⟩
      have hd : decide (L.Pairwise (· < ·)) = true := by simpa using hu
      rw [hd] at RR
      clear hb hL hn hA hd hu
      go_enter Try.func33, Try.ntmps33
      go_wp2_with fail
      refine EG.mono ?_
      rintro e w1 ⟨A', c', rfl, _, b1⟩
      have R1 := RR.out _ b1
      have HB := Lib.hid b1
      clear EG RR b1
      go_wp2_with fail
      refine R1.mono ?_
      rintro e w2 ⟨rfl, b2⟩
      go_wp2_with fail
      go_ret2
      exact ⟨true, rfl, by simp; exact HG.out, below_next HB.out b2⟩
    · have EG := ends_unsorted eps (by omega) (by omega) A c L hn hu w hA
      have HG : Hid (¬ Good eps L) := Lib.hid (fun h => hu h.2.2)
      have hd : decide (L.Pairwise (· < ·)) = false := by simpa using hu
      rw [hd] at RR
      clear hb hL hn hA hd hu
      go_enter Try.func33, Try.ntmps33
      go_wp2_with fail
      refine EG.mono ?_
      rintro e w1 ⟨rfl, b1⟩
      have R1 := RR.out _ b1
      have HB := Lib.hid b1
      clear EG RR b1
      go_wp2_with fail
      refine R1.mono ?_
      rintro e w2 ⟨rfl, b2⟩
      go_wp2_with fail
      go_ret2
      exact ⟨false, rfl, by simp; exact HG.out, below_next HB.out b2⟩
end Go.Proofs.Ytanhhgifcolfaaa
