/-
  line.Fits: whether a line is near to a key (its closure), and the whole.
-/
import Derived.Test.YtlkkeefcalkepaaQG4
import Derived.Test.YtlkkeefcalkepaaQG9
import Derived.Deep.LoopGhost
namespace Go.Proofs.Ytlkkeefcalkepaa
open Go.RowKit
set_option linter.unusedVariables false
set_option linter.unusedSimpArgs false

def lnV (x : Ln) : Array Value := #[.int .u64 x.1, .int .u64 x.2.1, .int .i64 x.2.2]
structure LnOk (x : Ln) : Prop where
  p : u64ok x.1
  q : u64ok x.2.1
  b : i64ok x.2.2
theorem lineAt_range (x : Ln) (d : Int) (h1 : 0 ≤ x.1) (h2 : 0 ≤ x.2.1) (hd : 0 ≤ d) : ((lineAt x d).2 = 0 ∧ -2305843009213693952 ≤ (lineAt x d).1 ∧ (lineAt x d).1 ≤ 4611686018427387904) ∨ (lineAt x d = (0, 1)) := by
  unfold lineAt
  split
  · exact .inr rfl
  · rename_i h
    split
    · rename_i hn
      have : 0 ≤ x.1 * d / x.2.1 := Int.ediv_nonneg (Int.mul_nonneg h1 hd) h2
      exact .inl ⟨rfl, by simp only []; omega, by simp only []; omega⟩
    · exact .inr rfl
/-- What the closure captured, and the first key. -/
structure NW (wr : World) (gx : Nat) (x : Ln) (A : Option Addr) (n c : Nat) (eps k0 : Int) (b o : Nat) : Prop where
  x : Blk wr gx 27 #[.int .u64 x.1, .int .u64 x.2.1, .int .i64 x.2.2]
  l : Blk wr (gx + 1) 22 #[.slice (some ⟨b, o, none⟩) n c]
  e : Blk wr (gx + 1 + 1) 3 #[.int .i64 eps]
  k : wr.cell? ⟨b, o, none⟩ = some (.int .u64 k0)
theorem NW.all {wr w' : World} {gx : Nat} {x : Ln} {A : Option Addr} {n c : Nat} {eps k0 : Int} {b o : Nat} (h : NW wr gx x A n c eps k0 b o) (k : Below wr.heap.size wr w') :
    Below wr.heap.size wr w' ∧ w'.cell? ⟨gx, 0, none⟩ = some (.int .u64 x.1) ∧ w'.cell? ⟨gx, 1, none⟩ = some (.int .u64 x.2.1) ∧ w'.cell? ⟨gx, 2, none⟩ = some (.int .i64 x.2.2) ∧ w'.cell? ⟨gx + 1, 0, none⟩ = some (.slice (some ⟨b, o, none⟩) n c) ∧ w'.cell? ⟨gx + 1 + 1, 0, none⟩ = some (.int .i64 eps) ∧ w'.cell? ⟨b, o, none⟩ = some (.int .u64 k0) :=
  ⟨k, (h.x.below k).cell 0, (h.x.below k).cell 1, (h.x.below k).cell 2, (h.l.below k).cell 0, (h.e.below k).cell 0, cell_below k h.k⟩
set_option maxHeartbeats 2000000 in
theorem near_fn (x : Ln) (hx : LnOk x) {wr : World} {gx : Nat} {A : Option Addr} {n c : Nat} {eps k0 : Int} {b o : Nat} (H : NW wr gx x A n c eps k0 b o) (hn : 0 < n) (hn2 : n ≤ 17592186044416) (he0 : 2 ≤ eps) (he1 : eps ≤ 64) (i k : Int) (hi0 : 0 ≤ i) (hi1 : i ≤ 17592186044416) (hk : u64ok k) (hk0 : u64ok k0) (hle : k0 ≤ k) :
    Calls Try.prog 31 #[.int .i64 i, .int .u64 k, .pointer (some ⟨gx, 0, none⟩), .pointer (some ⟨gx + 1, 0, none⟩), .pointer (some ⟨gx + 1 + 1, 0, none⟩)] wr fun e w' =>
      e = .returned (.bool ((lineAt x (k - k0)).2 == 0 && decide (i - (eps - 1) ≤ (lineAt x (k - k0)).1) && decide ((lineAt x (k - k0)).1 ≤ i + (eps - 1)))) ∧ Below wr.heap.size wr w' := by
  have v1 : IntKind.u64.wrap (k - k0) = k - k0 := by unfold u64ok at hk hk0; rw [IntKind.wrap_u64]; omega
  have AT := fun w => At_any x (k - k0) hx.p hx.q hx.b (by unfold u64ok at *; omega) w
  have R := lineAt_range x (k - k0) hx.p.1 hx.q.1 (by omega)
  have HH := Lib.hid H
  have v2 : IntKind.i64.wrap (eps - 1) = eps - 1 := IntWalk.i64_in _ (by omega)
  have v3 : IntKind.i64.wrap (i - (eps - 1)) = i - (eps - 1) := IntWalk.i64_in _ (by omega)
  have v4 : IntKind.i64.wrap (i + (eps - 1)) = i + (eps - 1) := IntWalk.i64_in _ (by omega)
  clear hx hk hk0 hle H
  generalize lineAt x (k - k0) = r at *
  obtain ⟨r1, r2⟩ := r
  simp only [] at R AT
  have HR := Lib.hid R
  clear R
  go_enter Try.func31, Try.ntmps31
  go_wp2_with fail
  go_region_held3 (fun w' => Below wr.heap.size wr w' ∧ w'.cell? ⟨gx, 0, none⟩ = some (.int .u64 x.1) ∧ w'.cell? ⟨gx, 1, none⟩ = some (.int .u64 x.2.1) ∧ w'.cell? ⟨gx, 2, none⟩ = some (.int .i64 x.2.2) ∧ w'.cell? ⟨gx + 1, 0, none⟩ = some (.slice (some ⟨b, o, none⟩) n c) ∧ w'.cell? ⟨gx + 1 + 1, 0, none⟩ = some (.int .i64 eps) ∧ w'.cell? ⟨b, o, none⟩ = some (.int .u64 k0))
    (first | exact HH.out.all (Below.refl _ _).drew | exact HH.out.all HB.out | go_keep)
    (first | (go_at_call 15; (with_reducible refine (AT _).mono ?_); rintro e5 w5 ⟨rfl, b5⟩; have HB := Lib.hid (below_next (Below.refl _ _).drew b5)))
  clear AT
  obtain ⟨_, _, _, _, _, c5, _⟩ := HH.out.all HB.out
  rcases HR.out with ⟨h0, h1, h2⟩ | h0
  · subst h0
    by_cases a1 : i - (eps - 1) ≤ r1
    · have g1 : decide (i - (eps - 1) ≤ r1) = true := by simpa using a1
      by_cases a2 : r1 ≤ i + (eps - 1)
      · have g2 : decide (r1 ≤ i + (eps - 1)) = true := by simpa using a2
        go_wp2_with fail
        go_ret
        exact ⟨by simp [a1, a2], HB.out⟩
      · have g2 : decide (r1 ≤ i + (eps - 1)) = false := by simpa using a2
        go_wp2_with fail
        go_ret
        exact ⟨by simp [a2], HB.out⟩
    · have g1 : decide (i - (eps - 1) ≤ r1) = false := by simpa using a1
      go_wp2_with fail
      go_ret
      exact ⟨by simp [a1], HB.out⟩
  · obtain ⟨rfl, rfl⟩ : r1 = 0 ∧ r2 = 1 := by simpa using h0
    go_wp2_with fail
    go_ret
    exact ⟨by simp, HB.out⟩
end Go.Proofs.Ytlkkeefcalkepaa
/-
  line.Fits, whole.
-/
namespace Go.Proofs.Ytlkkeefcalkepaa
open Go.RowKit
set_option linter.unusedVariables false
set_option linter.unusedSimpArgs false

theorem nearTo_zero {x : Ln} {e : Int} {L : List Int} : nearTo x e L 0 = true := by unfold nearTo; simp
theorem nearTo_succ {x : Ln} {e : Int} {L : List Int} {n : Nat} (h : nearTo x e L n = true) (k : nearAt x e L n = true) : nearTo x e L (n + 1) = true := by
  unfold nearTo at *
  rw [decide_eq_true_eq] at *
  intro i hi
  by_cases hin : i = n
  · subst hin; exact k
  · exact h i (by omega)
theorem nearTo_not {x : Ln} {e : Int} {L : List Int} {n i : Nat} (hi : i < n) (k : nearAt x e L i = false) : nearTo x e L n = false := by
  unfold nearTo
  rw [decide_eq_false_iff_not]
  intro h
  have := h i hi
  rw [k] at this
  exact absurd this (by simp)
theorem fitsB_bad {x : Ln} {L : List Int} {eps : Int} (h : eps < 2 ∨ 64 < eps ∨ L = [] ∨ ¬ L.Pairwise (· < ·)) : fitsB x L eps = false := if_pos h
theorem fitsB_good {x : Ln} {L : List Int} {eps : Int} (h1 : 2 ≤ eps) (h2 : eps ≤ 64) (h3 : L ≠ []) (h4 : L.Pairwise (· < ·)) : fitsB x L eps = nearTo x (eps - 1) L L.length :=
  if_neg (by rintro (h | h | h | h); omega; omega; exact h3 h; exact h h4)
theorem ArgU.first {w : World} {A : Option Addr} {L : List Int} (h : ArgU w A L) (hn : 0 < L.length) : ∃ b o, A = some ⟨b, o, none⟩ ∧ b < w.heap.size ∧ w.cell? ⟨b, o, none⟩ = some (.int .u64 (L.getD 0 0)) ∧ ∀ i (hi : i < L.length), w.cell? ⟨b, o + i, none⟩ = some (.int .u64 (L.getD i 0)) := by
  obtain ⟨b, o, hA, hb, hc⟩ := h hn
  have q : ∀ i (hi : i < L.length), w.cell? ⟨b, o + i, none⟩ = some (.int .u64 (L.getD i 0)) := fun i hi => by
    rw [List.getD_eq_getElem?_getD, List.getElem?_eq_getElem hi]; exact hc i hi
  exact ⟨b, o, hA, hb, q 0 hn, q⟩
theorem U64s.getD {L : List Int} (h : U64s L) {i : Nat} (hi : i < L.length) : u64ok (L.getD i 0) := by
  rw [List.getD_eq_getElem?_getD, List.getElem?_eq_getElem hi]; exact h.at hi
theorem up_first {L : List Int} (h : L.Pairwise (· < ·)) {i : Nat} (hi : i < L.length) : L.getD 0 0 ≤ L.getD i 0 := by
  by_cases h0 : i = 0
  · subst h0; exact Int.le_refl _
  · exact Int.le_of_lt (getD_lt h (by omega) hi)
set_option maxHeartbeats 4000000 in
set_option maxRecDepth 100000 in
theorem Fits_any (x : Ln) (hx : LnOk x) (A : Option Addr) (c : Nat) (L : List Int) (eps : Int) (hL : U64s L) (hn : L.length ≤ 17592186044416) (w : World) (hA : ArgU w A L) :
    Calls Try.prog 17 #[.agg #[.int .u64 x.1, .int .u64 x.2.1, .int .i64 x.2.2], .slice A L.length c, .int .i64 eps] w fun e w' => e = .returned (.bool (fitsB x L eps)) ∧ Below w.heap.size w w' := by
  have K0 : Hid (Kp w [(w.heap.size + 1 + 1, 3, #[.int .i64 eps]), (w.heap.size + 1, 22, #[.slice A L.length c]), (w.heap.size, 27, #[.int .u64 x.1, .int .u64 x.2.1, .int .i64 x.2.2])] (((w.alloc (.cells #[.int .u64 x.1, .int .u64 x.2.1, .int .i64 x.2.2] 27)).alloc (.cells #[.slice A L.length c] 22)).alloc (.cells #[.int .i64 eps] 3))) :=
    Lib.hid ((((Kp.nil w).box _ _ rfl).box _ _ (by simp)).box _ _ (by simp))
  by_cases h1 : eps < 2
  · have HV := Lib.hid (fitsB_bad (x := x) (L := L) (.inl h1))
    clear hA
    go_enter Try.func17, Try.ntmps17
    go_wp2_with fail
    go_ret
    exact ⟨by rw [HV.out]; rfl, K0.out.bel⟩
  · by_cases h2 : 64 < eps
    · have HV := Lib.hid (fitsB_bad (x := x) (L := L) (.inr (.inl h2)))
      clear hA
      go_enter Try.func17, Try.ntmps17
      go_wp2_with fail
      go_ret
      exact ⟨by rw [HV.out]; rfl, K0.out.bel⟩
    · by_cases h3 : L = []
      · subst h3
        have HV := Lib.hid (fitsB_bad (x := x) (L := []) (eps := eps) (.inr (.inr (.inl rfl))))
        simp only [List.length_nil] at K0 ⊢
        clear hA
        go_enter Try.func17, Try.ntmps17
        go_wp2_with fail
        go_ret
        exact ⟨by rw [HV.out]; rfl, K0.out.bel⟩
      · have hl : 0 < L.length := List.length_pos_iff.2 h3
        have RS := fun w' (k : Below w.heap.size w w') => Rising_any A c L hn w' (hA.below k)
        have HRS := Lib.hid (RS _ K0.out.bel)
        have g3 : ((L.length : Int) == 0) = false := beq_eq_false_iff_ne.2 (by omega)
        obtain ⟨b, o, rfl, hb, hc0, hc⟩ := hA.first hl
        have HC := Lib.hid (And.intro hb (And.intro hc0 hc))
        have HL := Lib.hid (And.intro hL h3)
        clear RS hA hL h3 hc hc0 hb
        by_cases h4 : L.Pairwise (· < ·)
        · have HV := Lib.hid (fitsB_good (x := x) (eps := eps) (by omega) (by omega) HL.out.2 h4)
          have hd : decide (L.Pairwise (· < ·)) = true := by simpa using h4
          rw [hd] at HRS
          have HU := Lib.hid h4
          clear h4 hd
          go_enter Try.func17, Try.ntmps17
          go_wp2_with fail
          refine HRS.out.mono ?_
          rintro e w1 ⟨rfl, b1⟩
          have K1 := Lib.hid (K0.out.below b1)
          have c1 : w1.cell? ⟨w.heap.size + 1, 0, none⟩ = some (.slice (some ⟨b, o, none⟩) L.length c) := (K1.out.at_ (List.mem_cons_of_mem _ List.mem_cons_self)).cell 0
          clear HRS K0 b1
          go_wp2_with fail
          go_loopw [29] (fun y wr => ∃ i : Nat, i ≤ L.length ∧ y = .int .i64 i ∧ Hid (nearTo x (eps - 1) L i = true ∧ Kp w [(w.heap.size + 1 + 1, 3, #[.int .i64 eps]), (w.heap.size + 1, 22, #[.slice (some ⟨b, o, none⟩) L.length c]), (w.heap.size, 27, #[.int .u64 x.1, .int .u64 x.2.1, .int .i64 x.2.2])] wr)) (fun y _ => L.length - (intOf y).toNat)
          case atStart => exact ⟨0, Nat.zero_le _, rfl, Lib.hid ⟨nearTo_zero, K1.out⟩⟩
          case round =>
            obtain ⟨i, hi, rfl, HK⟩ := hrel
            clear c1 K1
            by_cases hlt : i < L.length
            · obtain ⟨k, hk⟩ : ∃ k, L.getD i 0 = k := ⟨_, rfl⟩
              have ci : wr.cell? ⟨b, o + i, none⟩ = some (.int .u64 k) := by rw [← hk]; exact (HK.out.2.bel.cell (p := ⟨b, _, none⟩) HC.out.1).trans (HC.out.2.2 i hlt)
              have NF := near_fn x hx (wr := wr) (gx := w.heap.size) (A := none) (n := L.length) (c := c) (eps := eps) (k0 := L.getD 0 0) (b := b) (o := o) ⟨HK.out.2.at_ (List.mem_cons_of_mem _ (List.mem_cons_of_mem _ List.mem_cons_self)), HK.out.2.at_ (List.mem_cons_of_mem _ List.mem_cons_self), HK.out.2.at_ List.mem_cons_self, (HK.out.2.bel.cell (p := ⟨b, _, none⟩) HC.out.1).trans HC.out.2.1⟩
                hl hn (by omega) (by omega) i k (by omega) (by omega) (hk ▸ HL.out.1.getD hlt) (HL.out.1.getD hl) (hk ▸ up_first HU.out hlt)
              have hna : ((lineAt x (k - L.getD 0 0)).2 == 0 && decide ((i : Int) - (eps - 1) ≤ (lineAt x (k - L.getD 0 0)).1) && decide ((lineAt x (k - L.getD 0 0)).1 ≤ i + (eps - 1))) = nearAt x (eps - 1) L i := by unfold nearAt; rw [hk]
              rw [hna] at NF
              clear hna hk
              cases hv : nearAt x (eps - 1) L i with
              | true =>
                rw [hv] at NF
                have HN := Lib.hid hv
                clear hv
                go_wp2_with fail
                refine NF.mono ?_
                rintro e w5 ⟨rfl, b5⟩
                have HK5 := Lib.hid (And.intro (nearTo_succ HK.out.1 HN.out) (HK.out.2.below b5))
                clear NF b5
                go_wp2_with fail
                go_roundw
                case rel => exact ⟨i + 1, by omega, by go_num, HK5⟩
                case measure => simp [intOf]; omega
              | false =>
                rw [hv] at NF
                have HN := Lib.hid (nearTo_not hlt hv)
                clear hv
                go_wp2_with fail
                refine NF.mono ?_
                rintro e w5 ⟨rfl, b5⟩
                have HK5 := Lib.hid (HK.out.2.below b5)
                clear NF b5
                go_wp2_with fail
                go_ret
                exact ⟨by rw [HV.out, HN.out]; rfl, HK5.out.bel⟩
            · have g5 : decide (i < L.length) = false := by simpa using hlt
              obtain rfl : i = L.length := by omega
              go_wp2_with fail
              go_ret
              exact ⟨by rw [HV.out, HK.out.1]; rfl, HK.out.2.bel⟩
        · have HV := Lib.hid (fitsB_bad (x := x) (L := L) (eps := eps) (.inr (.inr (.inr h4))))
          have hd : decide (L.Pairwise (· < ·)) = false := by simpa using h4
          rw [hd] at HRS
          clear h4 hd
          go_enter Try.func17, Try.ntmps17
          go_wp2_with fail
          refine HRS.out.mono ?_
          rintro e w1 ⟨rfl, b1⟩
          have K1 := Lib.hid (K0.out.below b1)
          clear HRS K0 b1
          go_wp2_with fail
          go_ret
          exact ⟨by rw [HV.out]; rfl, K1.out.bel⟩
end Go.Proofs.Ytlkkeefcalkepaa
/-
  The reference's Fits.
-/
namespace Go.Proofs.Ytlkkeefcalkepaa
open Go.RowKit
set_option linter.unusedVariables false
set_option linter.unusedSimpArgs false

theorem nearTo_step {x : Ln} {e : Int} {L : List Int} {n : Nat} : nearTo x e L (n + 1) = (nearTo x e L n && nearAt x e L n) := by
  cases hk : nearAt x e L n with
  | false => rw [nearTo_not (Nat.lt_succ_self n) hk, Bool.and_false]
  | true =>
    cases hn : nearTo x e L n with
    | true => rw [nearTo_succ hn hk]; rfl
    | false =>
      unfold nearTo at *
      rw [decide_eq_false_iff_not] at *
      simp only [Bool.false_and]
      rw [decide_eq_false_iff_not]
      exact fun h => hn fun i hi => h i (by omega)
structure RF (w : World) (gx : Nat) (x : Ln) (wr : World) : Prop where
  x : Blk wr gx 27 #[.int .u64 x.1, .int .u64 x.2.1, .int .i64 x.2.2]
  ge : w.heap.size ≤ gx
  bel : Below w.heap.size w wr
theorem RF.below {w wr w' : World} {gx : Nat} {x : Ln} (h : RF w gx x wr) (k : Below wr.heap.size wr w') : RF w gx x w' := ⟨h.x.below k, h.ge, below_next h.bel k⟩
theorem RF.all {w wr : World} {gx : Nat} {x : Ln} {b o i : Nat} {k k0 : Int} (h : RF w gx x wr) (hc : Hid (b < w.heap.size ∧ w.cell? ⟨b, o, none⟩ = some (.int .u64 k0) ∧ w.cell? ⟨b, o + i, none⟩ = some (.int .u64 k))) :
    RF w gx x wr ∧ wr.cell? ⟨gx, 0, none⟩ = some (.int .u64 x.1) ∧ wr.cell? ⟨gx, 1, none⟩ = some (.int .u64 x.2.1) ∧ wr.cell? ⟨gx, 2, none⟩ = some (.int .i64 x.2.2) ∧ wr.cell? ⟨b, o, none⟩ = some (.int .u64 k0) ∧ wr.cell? ⟨b, o + i, none⟩ = some (.int .u64 k) :=
  ⟨h, h.x.cell 0, h.x.cell 1, h.x.cell 2, (h.bel.cell (p := ⟨b, _, none⟩) hc.out.1).trans hc.out.2.1, (h.bel.cell (p := ⟨b, _, none⟩) hc.out.1).trans hc.out.2.2⟩
set_option maxHeartbeats 4000000 in
set_option maxRecDepth 100000 in
theorem refFits_any (x : Ln) (hx : LnOk x) (A : Option Addr) (c : Nat) (L : List Int) (eps : Int) (hL : U64s L) (hn : L.length ≤ 17592186044416) (w : World) (hA : ArgU w A L) :
    Calls Try.prog 18 #[.agg #[.int .u64 x.1, .int .u64 x.2.1, .int .i64 x.2.2], .slice A L.length c, .int .i64 eps] w fun e w' => e = .returned (.bool (fitsB x L eps)) ∧ Below w.heap.size w w' := by
  have K0 : Hid (RF w w.heap.size x (w.alloc (.cells #[.int .u64 x.1, .int .u64 x.2.1, .int .i64 x.2.2] 27))) := Lib.hid ⟨Blk.new _ _ _, Nat.le_refl _, below_new (Below.refl _ _) _⟩
  by_cases h1 : eps < 2
  · have HV := Lib.hid (fitsB_bad (x := x) (L := L) (.inl h1))
    clear hA
    go_enter Try.func18, Try.ntmps18
    go_wp2_with fail
    go_ret
    exact ⟨by rw [HV.out]; rfl, K0.out.bel⟩
  · by_cases h2 : 64 < eps
    · have HV := Lib.hid (fitsB_bad (x := x) (L := L) (.inr (.inl h2)))
      clear hA
      go_enter Try.func18, Try.ntmps18
      go_wp2_with fail
      go_ret
      exact ⟨by rw [HV.out]; rfl, K0.out.bel⟩
    · by_cases h3 : L = []
      · subst h3
        have HV := Lib.hid (fitsB_bad (x := x) (L := []) (eps := eps) (.inr (.inr (.inl rfl))))
        simp only [List.length_nil] at K0 ⊢
        clear hA
        go_enter Try.func18, Try.ntmps18
        go_wp2_with fail
        go_ret
        exact ⟨by rw [HV.out]; rfl, K0.out.bel⟩
      · have hl : 0 < L.length := List.length_pos_iff.2 h3
        have RS := fun w' (k : Below w.heap.size w w') => ref_Rising A c L hn w' (hA.below k)
        have HRS := Lib.hid (RS _ K0.out.bel)
        have g3 : ((L.length : Int) == 0) = false := beq_eq_false_iff_ne.2 (by omega)
        obtain ⟨b, o, rfl, hb, hc0, hc⟩ := hA.first hl
        have HC := Lib.hid (And.intro hb (And.intro hc0 hc))
        have HL := Lib.hid (And.intro hL h3)
        clear RS hA hL h3 hc hc0 hb
        by_cases h4 : L.Pairwise (· < ·)
        · have HV := Lib.hid (fitsB_good (x := x) (eps := eps) (by omega) (by omega) HL.out.2 h4)
          have hd : decide (L.Pairwise (· < ·)) = true := by simpa using h4
          rw [hd] at HRS
          have HU := Lib.hid h4
          have v2 : IntKind.i64.wrap (eps - 1) = eps - 1 := IntWalk.i64_in _ (by omega)
          clear h4 hd
          go_enter Try.func18, Try.ntmps18
          go_wp2_with fail
          refine HRS.out.mono ?_
          rintro e w1 ⟨rfl, b1⟩
          have K1 := Lib.hid (K0.out.below b1)
          clear HRS K0 b1
          go_wp2_with fail
          go_loopw [7, 8] (fun f y wr => ∃ i : Nat, i ≤ L.length ∧ y = .int .i64 i ∧ ∃ t : Bool, f = .bool t ∧ Hid (t = nearTo x (eps - 1) L i) ∧ Hid (RF w w.heap.size x wr)) (fun _ y _ => L.length - (intOf y).toNat)
          case atStart => exact ⟨0, Nat.zero_le _, rfl, true, rfl, Lib.hid nearTo_zero.symm, K1⟩
          case round =>
            obtain ⟨i, hi, rfl, t, rfl, HT, HK⟩ := hrel
            clear K1
            by_cases hlt : i < L.length
            · obtain ⟨k, hk⟩ : ∃ k, L.getD i 0 = k := ⟨_, rfl⟩
              obtain ⟨k0, hk0⟩ : ∃ k0, L.getD 0 0 = k0 := ⟨_, rfl⟩
              have HCC : Hid (b < w.heap.size ∧ w.cell? ⟨b, o, none⟩ = some (.int .u64 k0) ∧ w.cell? ⟨b, o + i, none⟩ = some (.int .u64 k)) := Lib.hid ⟨HC.out.1, hk0 ▸ HC.out.2.1, hk ▸ HC.out.2.2 i hlt⟩
              have u1 : u64ok k := hk ▸ HL.out.1.getD hlt
              have u0 : u64ok k0 := hk0 ▸ HL.out.1.getD hl
              have hle : k0 ≤ k := by rw [← hk, ← hk0]; exact up_first HU.out hlt
              have v1 : IntKind.u64.wrap (k - k0) = k - k0 := by unfold u64ok at u1 u0; rw [IntKind.wrap_u64]; omega
              have AT := fun w => refAt_any x (k - k0) hx.p hx.q hx.b (by unfold u64ok at *; omega) w
              have R := lineAt_range x (k - k0) hx.p.1 hx.q.1 (by omega)
              have hna : Hid (nearAt x (eps - 1) L i = ((lineAt x (k - k0)).2 == 0 && decide ((i : Int) - (eps - 1) ≤ (lineAt x (k - k0)).1) && decide ((lineAt x (k - k0)).1 ≤ i + (eps - 1)))) := Lib.hid (by unfold nearAt; rw [hk, hk0])
              have v3 : IntKind.i64.wrap ((i : Int) - (eps - 1)) = (i : Int) - (eps - 1) := IntWalk.i64_in _ (by omega)
              have v4 : IntKind.i64.wrap ((i : Int) + (eps - 1)) = (i : Int) + (eps - 1) := IntWalk.i64_in _ (by omega)
              have i0 : (0 : Int) ≤ (i : Int) := by omega
              have i1 : (i : Int) < (L.length : Int) := by omega
              clear u1 u0 hle hk hk0
              generalize lineAt x (k - k0) = r at *
              obtain ⟨r1, r2⟩ := r
              simp only [] at R AT hna
              have HR := Lib.hid R
              clear R
              go_upto_region 7 with fail
              go_region_held3 (fun w' => RF w w.heap.size x w' ∧ w'.cell? ⟨w.heap.size, 0, none⟩ = some (.int .u64 x.1) ∧ w'.cell? ⟨w.heap.size, 1, none⟩ = some (.int .u64 x.2.1) ∧ w'.cell? ⟨w.heap.size, 2, none⟩ = some (.int .i64 x.2.2) ∧ w'.cell? ⟨b, o, none⟩ = some (.int .u64 k0) ∧ w'.cell? ⟨b, o + i, none⟩ = some (.int .u64 k))
                (first | exact (HK.out.below (Below.refl _ _).drew).all HCC | exact HB.out.all HCC | go_keep)
                (first | (go_at_call 16; (with_reducible refine (AT _).mono ?_); rintro e5 w5 ⟨rfl, b5⟩; have HB := Lib.hid ((‹RF _ _ _ _ ∧ _›).1.below b5)))
              clear AT
              rcases HR.out with ⟨h0, _, _⟩ | h0
              · subst h0
                by_cases a1 : r1 < (i : Int) - (eps - 1)
                · have g1 : decide (r1 < (i : Int) - (eps - 1)) = true := by simpa using a1
                  have HF : Hid (false = nearTo x (eps - 1) L (i + 1)) := Lib.hid (by rw [nearTo_step, hna.out]; simp; intro _ h; omega)
                  clear a1
                  go_wp2_with fail
                  go_roundw
                  case rel => exact ⟨i + 1, by omega, by go_num, false, rfl, HF, HB⟩
                  case measure => simp [intOf]; omega
                · have g1 : decide (r1 < (i : Int) - (eps - 1)) = false := by simpa using a1
                  by_cases a2 : (i : Int) + (eps - 1) < r1
                  · have g2 : decide ((i : Int) + (eps - 1) < r1) = true := by simpa using a2
                    have HF : Hid (false = nearTo x (eps - 1) L (i + 1)) := Lib.hid (by rw [nearTo_step, hna.out]; simp; intro _ h; omega)
                    clear a1 a2
                    go_wp2_with fail
                    go_roundw
                    case rel => exact ⟨i + 1, by omega, by go_num, false, rfl, HF, HB⟩
                    case measure => simp [intOf]; omega
                  · have g2 : decide ((i : Int) + (eps - 1) < r1) = false := by simpa using a2
                    have HF : Hid (t = nearTo x (eps - 1) L (i + 1)) := Lib.hid (by
                      have q1 : decide ((i : Int) - (eps - 1) ≤ r1) = true := by simp; omega
                      have q2 : decide (r1 ≤ (i : Int) + (eps - 1)) = true := by simp; omega
                      rw [nearTo_step, hna.out, ← HT.out, q1, q2]; simp)
                    clear a1 a2
                    go_wp2_with fail
                    go_roundw
                    case rel => exact ⟨i + 1, by omega, by go_num, t, rfl, HF, HB⟩
                    case measure => simp [intOf]; omega
              · obtain ⟨rfl, rfl⟩ : r1 = 0 ∧ r2 = 1 := by simpa using h0
                have HF := Lib.hid (nearTo_not hlt (by rw [hna.out]; simp))
                go_wp2_with fail
                go_ret
                exact ⟨by rw [HV.out, HF.out]; rfl, HB.out.bel⟩
            · have g5 : decide (i < L.length) = false := by simpa using hlt
              obtain rfl : i = L.length := by omega
              go_wp2_with fail
              go_ret
              exact ⟨by rw [HV.out, ← HT.out]; rfl, HK.out.bel⟩
        · have HV := Lib.hid (fitsB_bad (x := x) (L := L) (eps := eps) (.inr (.inr (.inr h4))))
          have hd : decide (L.Pairwise (· < ·)) = false := by simpa using h4
          rw [hd] at HRS
          clear h4 hd
          go_enter Try.func18, Try.ntmps18
          go_wp2_with fail
          refine HRS.out.mono ?_
          rintro e w1 ⟨rfl, b1⟩
          have K1 := Lib.hid (K0.out.below b1)
          clear HRS K0 b1
          go_wp2_with fail
          go_ret
          exact ⟨by rw [HV.out]; rfl, K1.out.bel⟩
end Go.Proofs.Ytlkkeefcalkepaa
