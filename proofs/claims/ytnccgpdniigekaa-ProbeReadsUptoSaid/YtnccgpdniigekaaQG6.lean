/-
  line.Of: all keys into a fit.
-/
import Derived.Test.YtnccgpdniigekaaQG5
import Derived.Test.YtnccgpdniigekaaQG28
import Derived.Test.YtnccgpdniigekaaQG4
import Derived.Test.YtnccgpdniigekaaQG8
namespace Go.Proofs.Ytnccgpdniigekaa
open Go.RowKit
set_option linter.unusedVariables false
set_option linter.unusedSimpArgs false

theorem lineOf_arg {L : List Int} {eps : Int} (h : eps < 2 ∨ 64 < eps) : lineOf L eps = ((0, 0, 0), 1) := if_pos h
theorem lineOf_order {L : List Int} {eps : Int} (h1 : 2 ≤ eps) (h2 : eps ≤ 64) (h : L = [] ∨ ¬ L.Pairwise (· < ·)) : lineOf L eps = ((0, 0, 0), 50) := by
  unfold lineOf; rw [if_neg (by omega), if_pos h]
theorem lineOf_fit {L : List Int} {eps : Int} (h1 : 2 ≤ eps) (h2 : eps ≤ 64) (h3 : L ≠ []) (h4 : L.Pairwise (· < ·)) (h : fitAll (eps - 1) Fit.zero L = none) : lineOf L eps = ((0, 0, 0), 51) := by
  unfold lineOf; rw [if_neg (by omega), if_neg (by rintro (k | k); exact h3 k; exact k h4), h]
theorem lineOf_some {L : List Int} {eps : Int} {F : Fit} (h1 : 2 ≤ eps) (h2 : eps ≤ 64) (h3 : L ≠ []) (h4 : L.Pairwise (· < ·)) (h : fitAll (eps - 1) Fit.zero L = some F) : LineIs L eps F := by
  obtain ⟨hF, hk⟩ := fitAll_zero (by omega) h
  exact ⟨h1, h2, h3, h4, hF, hk, by unfold lineOf; rw [if_neg (by omega), if_neg (by rintro (k | k); exact h3 k; exact k h4), h]⟩
/-- The fit so far, and the result's own block. -/
structure OW (w : World) (gf : Nat) (e : Int) (F : Fit) (S : Nat → Prop) (wr : World) : Prop where
  fit : FitO wr gf e F S
  new : ∀ k, S k → w.heap.size < k
  res : Blk wr w.heap.size 106 #[.int .u64 0, .int .u64 0, .int .i64 0]
  bel : Below w.heap.size w wr
theorem OW.below {w wr w' : World} {gf : Nat} {e : Int} {F : Fit} {S : Nat → Prop} (h : OW w gf e F S wr) (k : Below wr.heap.size wr w') : OW w gf e F S w' := ⟨h.fit.below k, h.new, h.res.below k, below_next h.bel k⟩
theorem OW.add {w wr w' : World} {gf : Nat} {e : Int} {F F' : Fit} {S S' : Nat → Prop} (h : OW w gf e F S wr) (hf : FitO w' gf e F' S') (hc : Chg S wr w') (hn : ∀ k, S' k → S k ∨ wr.heap.size ≤ k) : OW w gf e F' S' w' :=
  ⟨hf, fun k hk => (hn k hk).elim (h.new k) (fun m => by have := h.res.lt; omega), h.res.chg hc (fun hs => by have := h.new _ hs; omega), below_chg h.bel hc (fun k _ hk => by have := h.new k hk; omega) h.bel.size⟩
/-- What Of's key gives. -/
theorem of_step {e : Int} {L : List Int} {F : Fit} {i : Nat} (h : fitAll e Fit.zero (L.take i) = some F) (hi : i < L.length) :
    (∃ c F', F.add e (L.getD i 0) = ((true, c), F') ∧ fitAll e Fit.zero (L.take (i + 1)) = some F') ∨ (∃ c F', F.add e (L.getD i 0) = ((false, c), F') ∧ fitAll e Fit.zero L = none) := by
  have hs := fitAll_take h hi
  have hg : L.getD i 0 = L[i] := by rw [List.getD_eq_getElem?_getD, List.getElem?_eq_getElem hi]; rfl
  rw [hg]
  obtain ⟨⟨⟨t, c⟩, F'⟩, hr⟩ : ∃ r, F.add e L[i] = r := ⟨_, rfl⟩
  rw [hr] at hs ⊢
  cases t with
  | true => exact .inl ⟨c, F', rfl, by simpa using hs⟩
  | false => exact .inr ⟨c, F', rfl, fitAll_none (by simpa using hs)⟩
end Go.Proofs.Ytnccgpdniigekaa
/-
  line.Of, whole.
-/
namespace Go.Proofs.Ytnccgpdniigekaa
open Go.RowKit
set_option linter.unusedVariables false
set_option linter.unusedSimpArgs false

/-- What Of leaves. -/
def OfPost (w : World) (L : List Int) (eps : Int) (e : Ending) (w' : World) : Prop :=
  e = .returned (.tuple #[.agg #[.int .u64 (lineOf L eps).1.1, .int .u64 (lineOf L eps).1.2.1, .int .i64 (lineOf L eps).1.2.2], .int .i64 (lineOf L eps).2]) ∧ Below w.heap.size w w'
theorem of_err {w w' : World} {L : List Int} {eps c : Int} (h : lineOf L eps = ((0, 0, 0), c)) (hb : Below w.heap.size w w') : OfPost w L eps (.returned (.tuple #[.agg #[.int .u64 0, .int .u64 0, .int .i64 0], .int .i64 c])) w' := by
  unfold OfPost; rw [h]; exact ⟨rfl, hb⟩
/-- The second loop: the slope, the line so far, the result's block. -/
structure O2 (w : World) (g12 g13 : Nat) (s : Fr) (bs : Int) (wr : World) : Prop where
  sl : Blk wr g12 122 #[.int .u64 s.1, .int .u64 s.2]
  ln : Blk wr g13 106 #[.int .u64 s.1, .int .u64 s.2, .int .i64 bs]
  res : Blk wr w.heap.size 106 #[.int .u64 0, .int .u64 0, .int .i64 0]
  ge : w.heap.size < g13
  bel : Below w.heap.size w wr
section
variable {w wr w' : World} {g12 g13 b o i : Nat} {s : Fr} {bs k k0 : Int}
theorem O2.below (h : O2 w g12 g13 s bs wr) (k : Below wr.heap.size wr w') : O2 w g12 g13 s bs w' := ⟨h.sl.below k, h.ln.below k, h.res.below k, h.ge, below_next h.bel k⟩
theorem O2.ne (h : O2 w g12 g13 s bs wr) : g12 ≠ g13 := fun e => by
  have h1 := h.sl
  rw [e] at h1
  exact absurd (Blk.uniq h1 h.ln).1 (by decide)
theorem O2.set (h : O2 w g12 g13 s bs wr) (b2 : Int) : O2 w g12 g13 s b2 (wr.setCell ⟨g13, 2, none⟩ (.int .i64 b2)) :=
  ⟨h.sl.far _ h.ne, h.ln.set 2 _, h.res.far _ (by have := h.ge; simp only []; omega), h.ge, h.bel.setCell (by have := h.ge; simp only []; omega) _⟩
theorem O2.all (h : O2 w g12 g13 s bs wr) (hc : Hid (b < w.heap.size ∧ w.cell? ⟨b, o, none⟩ = some (.int .u64 k0))) :
    O2 w g12 g13 s bs wr ∧ wr.cell? ⟨g12, 0, none⟩ = some (.int .u64 s.1) ∧ wr.cell? ⟨g12, 1, none⟩ = some (.int .u64 s.2) ∧ wr.cell? ⟨b, o, none⟩ = some (.int .u64 k0) :=
  ⟨h, h.sl.cell 0, h.sl.cell 1, (h.bel.cell (p := ⟨b, _, none⟩) hc.out.1).trans hc.out.2⟩
end
end Go.Proofs.Ytnccgpdniigekaa
/-
  The reference's Of, whole.
-/
namespace Go.Proofs.Ytnccgpdniigekaa
open Go.RowKit
set_option linter.unusedVariables false
set_option linter.unusedSimpArgs false

/-- The reference's fit so far, and the result's own block. -/
structure ROW (w : World) (gf : Nat) (e : Int) (F : Fit) (S : Nat → Prop) (wr : World) : Prop where
  fit : RefO wr gf e F S
  new : ∀ k, S k → w.heap.size < k
  res : Blk wr w.heap.size 106 #[.int .u64 0, .int .u64 0, .int .i64 0]
  bel : Below w.heap.size w wr
theorem ROW.below {w wr w' : World} {gf : Nat} {e : Int} {F : Fit} {S : Nat → Prop} (h : ROW w gf e F S wr) (k : Below wr.heap.size wr w') : ROW w gf e F S w' := ⟨h.fit.below k, h.new, h.res.below k, below_next h.bel k⟩
theorem ROW.add {w wr w' : World} {gf : Nat} {e : Int} {F F' : Fit} {S S' : Nat → Prop} (h : ROW w gf e F S wr) (hf : RefO w' gf e F' S') (hc : Chg S wr w') (hn : ∀ k, S' k → S k ∨ wr.heap.size ≤ k) : ROW w gf e F' S' w' :=
  ⟨hf, fun k hk => (hn k hk).elim (h.new k) (fun m => by have := h.res.lt; omega), h.res.chg hc (fun hs => by have := h.new _ hs; omega), below_chg h.bel hc (fun k _ hk => by have := h.new k hk; omega) h.bel.size⟩
def ROTo (w : World) (gf : Nat) (e : Int) (L : List Int) (x : Value) (wr : World) : Prop :=
  ∃ (i : Nat) (F : Fit) (S : Nat → Prop), i ≤ L.length ∧ x = .int .i64 i ∧ fitAll e Fit.zero (L.take i) = some F ∧ ROW w gf e F S wr
theorem RefO.s64 {w : World} {b : Nat} {e : Int} {F : Fit} {S : Nat → Prop} (h : RefO w b e F S) : u64ok F.low.2 := by
  obtain ⟨v, _, ⟨c0, c1, q⟩, _⟩ := h
  exact q.fl.2
theorem O2.all2 {w wr : World} {g12 g13 b o j : Nat} {s : Fr} {bs k k0 : Int} (h : O2 w g12 g13 s bs wr) (hc : Hid (b < w.heap.size ∧ w.cell? ⟨b, o, none⟩ = some (.int .u64 k0) ∧ w.cell? ⟨b, o + j, none⟩ = some (.int .u64 k))) :
    O2 w g12 g13 s bs wr ∧ wr.cell? ⟨g13, 0, none⟩ = some (.int .u64 s.1) ∧ wr.cell? ⟨g13, 1, none⟩ = some (.int .u64 s.2) ∧ wr.cell? ⟨g13, 2, none⟩ = some (.int .i64 bs) ∧ wr.cell? ⟨b, o, none⟩ = some (.int .u64 k0) ∧ wr.cell? ⟨b, o + j, none⟩ = some (.int .u64 k) :=
  ⟨h, h.ln.cell 0, h.ln.cell 1, h.ln.cell 2, (h.bel.cell (p := ⟨b, _, none⟩) hc.out.1).trans hc.out.2.1, (h.bel.cell (p := ⟨b, _, none⟩) hc.out.1).trans hc.out.2.2⟩
/-- The base, as the reference has it on the way. -/
def baseR (s : Fr) (L : List Int) (e : Int) (j : Nat) : Int := if j = 0 then 0 else baseOf s L e j
theorem baseR_first {s : Fr} {L : List Int} {e : Int} : baseR s L e 1 = 0 - e - nAtF s L 0 := by
  have h0 : baseAt s L e 0 = -e := by unfold baseAt; rw [Int.sub_self, Int.mul_zero, Int.zero_ediv]; omega
  have z0 : nAtF s L 0 = 0 := by unfold nAtF; rw [Int.sub_self, Int.mul_zero, Int.zero_ediv]
  unfold baseR
  rw [if_neg (by omega), baseOf, h0, baseOf, z0]; omega
theorem baseR_more {s : Fr} {L : List Int} {e : Int} {j : Nat} (hj : j ≠ 0) : baseR s L e (j + 1) = if baseR s L e j < (j : Int) - e - nAtF s L j then (j : Int) - e - nAtF s L j else baseR s L e j := by
  unfold baseR
  rw [if_neg (by omega), if_neg hj, baseOf]
  have : baseAt s L e j = (j : Int) - e - nAtF s L j := rfl
  rw [this]
  split <;> omega
set_option maxHeartbeats 8000000 in
set_option maxRecDepth 100000 in
theorem refOf_any (A : Option Addr) (c : Nat) (L : List Int) (eps : Int) (hL : U64s L) (hn : L.length ≤ 17592186044416) (w : World) (hA : ArgU w A L) :
    Calls Try.prog 70 #[.slice A L.length c, .int .i64 eps] w (OfPost w L eps) := by
  have B0 : Hid (Blk (w.alloc (.cells #[.int .u64 0, .int .u64 0, .int .i64 0] 106)) w.heap.size 106 #[.int .u64 0, .int .u64 0, .int .i64 0] ∧ Below w.heap.size w (w.alloc (.cells #[.int .u64 0, .int .u64 0, .int .i64 0] 106))) := Lib.hid ⟨Blk.new _ _ _, below_new (Below.refl _ _) _⟩
  by_cases hb : eps < 2 ∨ 64 < eps
  · have HV := Lib.hid (lineOf_arg (L := L) hb)
    by_cases hb2 : eps < 2
    · clear hA hL hb
      go_enter Try.func70, Try.ntmps70
      go_wp2_with fail
      refine bodyPost_ret (v := .tuple #[.agg #[.int .u64 0, .int .u64 0, .int .i64 0], .int .i64 1]) (results_ct (p := 4) (u := 5) (ty := 106) (t := 106) rfl _ rfl rfl ?_ Try.underlying106 rfl (by kernel_rfl)) rfl (of_err HV.out ?_)
      · exact B0.out.1
      · exact B0.out.2
    · have hb3 : 64 < eps := by omega
      clear hA hL hb
      go_enter Try.func70, Try.ntmps70
      go_wp2_with fail
      refine bodyPost_ret (v := .tuple #[.agg #[.int .u64 0, .int .u64 0, .int .i64 0], .int .i64 1]) (results_ct (p := 4) (u := 5) (ty := 106) (t := 106) rfl _ rfl rfl ?_ Try.underlying106 rfl (by kernel_rfl)) rfl (of_err HV.out ?_)
      · exact B0.out.1
      · exact B0.out.2
  · have h1 : 2 ≤ eps := by omega
    have h2 : eps ≤ 64 := by omega
    have N := fun w => ref_New eps h1 h2 w
    by_cases h3 : L = []
    · subst h3
      have HV := Lib.hid (lineOf_order (L := []) h1 h2 (.inl rfl))
      simp only [List.length_nil]
      clear hA hL N
      go_enter Try.func70, Try.ntmps70
      go_wp2_with fail
      refine bodyPost_ret (v := .tuple #[.agg #[.int .u64 0, .int .u64 0, .int .i64 0], .int .i64 50]) (results_ct (p := 4) (u := 5) (ty := 106) (t := 106) rfl _ rfl rfl ?_ Try.underlying106 rfl (by kernel_rfl)) rfl (of_err HV.out ?_)
      · exact B0.out.1
      · exact B0.out.2
    · have hl : 0 < L.length := List.length_pos_iff.2 h3
      have g3 : ((L.length : Int) == 0) = false := beq_eq_false_iff_ne.2 (by omega)
      obtain ⟨b, o, rfl, hbb, hc0, hc⟩ := hA.first hl
      have RS := ref_Rising (some ⟨b, o, none⟩) c L hn _ (hA.below B0.out.2)
      have HC := Lib.hid (And.intro hbb (And.intro hc0 hc))
      have HL := Lib.hid (And.intro hL h3)
      clear hA hL h3 hc hc0 hbb
      by_cases h4 : L.Pairwise (· < ·)
      · have hd : decide (L.Pairwise (· < ·)) = true := by simpa using h4
        rw [hd] at RS
        have HU := Lib.hid h4
        clear h4 hd
        go_enter Try.func70, Try.ntmps70
        go_wp2_with fail
        refine RS.mono ?_
        rintro e w1 ⟨rfl, k1⟩
        have K1 := Lib.hid (And.intro (B0.out.1.below k1) (below_next B0.out.2 k1))
        clear RS k1 B0
        go_wp2_with fail
        refine (N _).mono ?_
        rintro e w2 ⟨rfl, k2, FF⟩
        have HO : Hid (ROW w w1.heap.size (eps - 1) Fit.zero (fun k => k = w1.heap.size) w2) := Lib.hid ⟨FF, fun k hk => by have := K1.out.1.lt; omega, K1.out.1.below k2, below_next K1.out.2 k2⟩
        clear N k2 FF K1
        go_wp2_with fail
        generalize w1.heap.size = gf at *
        go_loopw [8] (fun x wr => ROTo w gf (eps - 1) L x wr) (fun x _ => L.length - (intOf x).toNat)
        case atStart => exact ⟨0, Fit.zero, _, Nat.zero_le _, rfl, rfl, HO.out⟩
        case round =>
          obtain ⟨i, F, S, hi, rfl, hF, O⟩ := hrel
          have HF := Lib.hid hF
          have HW := Lib.hid O
          clear hF O HO
          by_cases hlt : i < L.length
          · have hk := HL.out.1.getD hlt
            have ST := Lib.hid (of_step HF.out hlt)
            have big : F.keys.length < 17592186044416 := by
              have h := (fitAll_zero (e := eps - 1) (by omega) HF.out).2
              rw [h, List.length_take]; omega
            have AD := ref_AddO (L.getD i 0) hk big HW.out.fit
            have ci : wr.cell? ⟨b, o + i, none⟩ = some (.int .u64 (L.getD i 0)) := (HW.out.bel.cell (p := ⟨b, _, none⟩) HC.out.1).trans (HC.out.2.2 i hlt)
            clear big hk
            obtain ⟨k, hk⟩ : ∃ k, L.getD i 0 = k := ⟨_, rfl⟩
            rw [hk] at ST AD ci
            clear hk
            obtain ⟨⟨⟨t, cc⟩, F'⟩, hadd⟩ : ∃ r, F.add (eps - 1) k = r := ⟨_, rfl⟩
            have HAD := Lib.hid hadd
            rw [hadd] at AD ST
            clear hadd
            cases t with
            | true =>
              go_wp2_with fail
              refine AD.mono ?_
              rintro e w5 ⟨rfl, S', f1, f2, f3⟩
              rw [HAD.out] at f1
              have HE := Lib.hid (HW.out.add f1 f2 f3)
              have HF2 : Hid (fitAll (eps - 1) Fit.zero (L.take (i + 1)) = some F') := Lib.hid (by
                rcases ST.out with ⟨c', G, h, hg⟩ | ⟨c', G, h, hg⟩
                · have := (Prod.mk.inj h).2; rw [this]; exact hg
                · simp at h)
              clear AD f1 f2 f3 ci
              go_wp2_with fail
              go_roundw
              case rel => exact ⟨i + 1, F', _, by omega, by go_num, HF2.out, HE.out⟩
              case measure => simp [intOf]; omega
            | false =>
              have HV : Hid (lineOf L eps = ((0, 0, 0), 51)) := Lib.hid (lineOf_fit h1 h2 HL.out.2 HU.out (by
                rcases ST.out with ⟨c', G, h, hg⟩ | ⟨c', G, h, hg⟩
                · simp at h
                · exact hg))
              go_wp2_with fail
              refine AD.mono ?_
              rintro e w5 ⟨rfl, S', f1, f2, f3⟩
              rw [HAD.out] at f1
              have HE := Lib.hid (HW.out.add f1 f2 f3)
              obtain ⟨p0, p1, p2, q0, q1, q2⟩ := HE.out.res.cells3
              clear AD f1 f2 f3 ci
              go_wp2_with fail
              refine bodyPost_ret (v := .tuple #[.agg #[.int .u64 0, .int .u64 0, .int .i64 0], .int .i64 51]) (results_ct (p := 4) (u := 5) (ty := 106) (t := 106) rfl _ rfl rfl HE.out.res.set3 Try.underlying106 rfl (by kernel_rfl)) rfl (of_err HV.out (below_set3 HE.out.bel (Nat.le_refl _)))
          · have g5 : decide (i < L.length) = false := by simpa using hlt
            obtain rfl : i = L.length := by omega
            have LI := lineOf_some (F := F) h1 h2 HL.out.2 HU.out (by have := HF.out; rwa [List.take_length] at this)
            have HLI := Lib.hid LI
            have C1 := refO_Least HW.out.fit
            obtain ⟨s, hs⟩ : ∃ s, F.low = s := ⟨_, rfl⟩
            rw [hs] at C1
            have HS := Lib.hid hs
            clear LI hs
            go_wp2_with fail
            refine C1.mono ?_
            rintro e w6 ⟨rfl, k6⟩
            have H6 := Lib.hid (HW.out.below k6)
            clear C1 k6
            go_wp2_with fail
            have HP : Hid (O2 w w6.heap.size (w6.heap.size + 1) s (baseR s L (eps - 1) 0) ((w6.alloc (.cells #[.int .u64 s.1, .int .u64 s.2] 122)).alloc (.cells #[.int .u64 s.1, .int .u64 s.2, .int .i64 0] 106))) := Lib.hid (by
              have e0 : baseR s L (eps - 1) 0 = 0 := by unfold baseR; rw [if_pos rfl]
              rw [e0]
              have := H6.out.bel.size
              exact ⟨(Blk.new _ _ _).alloc _, Blk.new' _ _ (by simp), (H6.out.res.alloc _).alloc _, by omega, below_new (below_new H6.out.bel _) _⟩)
            have HBR : Hid (baseR s L (eps - 1) L.length = baseOf s L (eps - 1) L.length) := Lib.hid (by unfold baseR; rw [if_neg (by omega)])
            have hrng : Hid (∀ j, j < L.length → 0 ≤ nAtF s L j ∧ nAtF s L j ≤ (j : Int) + 2 * (eps - 1)) := Lib.hid (fun j hj => by rw [← HS.out]; exact nAtF_range HLI.out.e0 HLI.out.full.ok.low.ok.num HLI.out.den HLI.out.up HLI.out.bears hj)
            have hsp : Hid (0 < s.2 ∧ u64ok s.1 ∧ u64ok s.2) := Lib.hid (by
              rw [← HS.out]
              have n1 := HLI.out.full.num_low HLI.out.e0
              have n2 := HLI.out.full.ok.low.ok.num
              rw [HLI.out.keys] at n1
              exact ⟨HLI.out.den, ⟨n2, by omega⟩, H6.out.fit.s64⟩)
            clear H6 HW
            generalize w6.heap.size = g12 at *
            generalize g12 + 1 = g13 at *
            go_loopw [13] (fun y wr => ∃ j : Nat, j ≤ L.length ∧ y = .int .i64 j ∧ Hid (O2 w g12 g13 s (baseR s L (eps - 1) j) wr)) (fun y _ => L.length - (intOf y).toNat)
            case atStart => exact ⟨0, Nat.zero_le _, rfl, HP⟩
            case round =>
              obtain ⟨j, hj, rfl, HJ⟩ := hrel
              clear HP
              by_cases hlt2 : j < L.length
              · have hr := hrng.out j hlt2
                have hB1 : Hid (j = 0 → baseR s L (eps - 1) (j + 1) = (j : Int) - (eps - 1) - nAtF s L j) := Lib.hid (by rintro rfl; exact baseR_first)
                have hB2 : Hid (j ≠ 0 → baseR s L (eps - 1) (j + 1) = if baseR s L (eps - 1) j < (j : Int) - (eps - 1) - nAtF s L j then (j : Int) - (eps - 1) - nAtF s L j else baseR s L (eps - 1) j) := Lib.hid baseR_more
                have u1 := HL.out.1.getD hlt2
                have u0 := HL.out.1.getD hl
                have hle := up_first HU.out hlt2
                have cj : wr.cell? ⟨b, o + j, none⟩ = some (.int .u64 (L.getD j 0)) := (HJ.out.bel.cell (p := ⟨b, _, none⟩) HC.out.1).trans (HC.out.2.2 j hlt2)
                have hnf : nAtF s L j = s.1 * (L.getD j 0 - L.getD 0 0) / s.2 := rfl
                have HC0 : Hid (b < w.heap.size ∧ w.cell? ⟨b, o, none⟩ = some (.int .u64 (L.getD 0 0)) ∧ w.cell? ⟨b, o + j, none⟩ = some (.int .u64 (L.getD j 0))) := Lib.hid ⟨HC.out.1, HC.out.2.1, HC.out.2.2 j hlt2⟩
                obtain ⟨k, hk⟩ : ∃ k, L.getD j 0 = k := ⟨_, rfl⟩
                obtain ⟨k0, hk0⟩ : ∃ k0, L.getD 0 0 = k0 := ⟨_, rfl⟩
                rw [hk] at u1 hle cj hnf
                rw [hk0] at u0 hle hnf
                rw [hk, hk0] at HC0
                have v2 : IntKind.u64.wrap (k - k0) = k - k0 := by unfold u64ok at u1 u0; rw [IntKind.wrap_u64]; omega
                have AL := fun w => down_any s.1 s.2 (baseR s L (eps - 1) j) (k - k0) hsp.out.2.1 hsp.out.2.2 (by unfold u64ok at *; omega) hsp.out.1 w
                have har : downV s.1 s.2 (k - k0) = (nAtF s L j, true) := by
                  unfold downV
                  rw [← hnf, if_pos (by omega)]
                rw [har] at AL
                clear har hnf u1 u0 hle hk hk0
                generalize nAtF s L j = r at *
                have v4 : IntKind.i64.wrap (eps - 1) = eps - 1 := IntWalk.i64_in _ (by omega)
                have v5 : IntKind.i64.wrap ((j : Int) - (eps - 1)) = (j : Int) - (eps - 1) := IntWalk.i64_in _ (by omega)
                have v6 : IntKind.i64.wrap ((j : Int) - (eps - 1) - r) = (j : Int) - (eps - 1) - r := IntWalk.i64_in _ (by omega)
                have i0 : (0 : Int) ≤ (j : Int) := by omega
                have i1 : (j : Int) < (L.length : Int) := by omega
                generalize baseR s L (eps - 1) j = bs at *
                go_upto_region 17 with fail
                go_region_held3 (fun w' => O2 w g12 g13 s bs w' ∧ w'.cell? ⟨g13, 0, none⟩ = some (.int .u64 s.1) ∧ w'.cell? ⟨g13, 1, none⟩ = some (.int .u64 s.2) ∧ w'.cell? ⟨g13, 2, none⟩ = some (.int .i64 bs) ∧ w'.cell? ⟨b, o, none⟩ = some (.int .u64 k0) ∧ w'.cell? ⟨b, o + j, none⟩ = some (.int .u64 k))
                  (first | exact (HJ.out.below (Below.refl _ _).drew).all2 HC0 | exact HB.out.all2 HC0 | go_keep)
                  (first | (go_at_call 87; (with_reducible refine (AL _).mono ?_); rintro e7 w7 ⟨rfl, b7⟩; have HB := Lib.hid ((‹O2 _ _ _ _ _ _ ∧ _›).1.below b7)))
                have x2 : w7.cell? ⟨g13, 2, none⟩ = some (.int .i64 bs) := HB.out.ln.cell 2
                have f2 : w7.frozen? ⟨g13, 2, none⟩ = false := HB.out.ln.free 2
                clear AL cj
                by_cases hj0 : j = 0
                · have hb1 := hB1.out hj0
                  have HX := Lib.hid hb1
                  subst hj0
                  clear hb1 hB1 hB2
                  go_wp2_with fail
                  go_roundw
                  case rel => exact ⟨0 + 1, by omega, by go_num, Lib.hid (by rw [HX.out, show ((0 : Nat) : Int) - (eps - 1) - r = -(eps - 1) - r from by omega]; exact HB.out.set _)⟩
                  case measure => simp [intOf]; omega
                · have hb2 := hB2.out hj0
                  have gj : ((j : Int) == 0) = false := beq_eq_false_iff_ne.2 (by omega)
                  by_cases hgt : bs < (j : Int) - (eps - 1) - r
                  · rw [if_pos hgt] at hb2
                    have HX := Lib.hid hb2
                    have gg : decide (bs < (j : Int) - (eps - 1) - r) = true := by simpa using hgt
                    clear hb2 hB1 hB2 hgt
                    go_wp2_with fail
                    go_roundw
                    case rel => exact ⟨j + 1, by omega, by go_num, Lib.hid (by rw [HX.out]; exact HB.out.set _)⟩
                    case measure => simp [intOf]; omega
                  · rw [if_neg hgt] at hb2
                    have HX := Lib.hid hb2
                    have gg : decide (bs < (j : Int) - (eps - 1) - r) = false := by simpa using hgt
                    clear hb2 hB1 hB2 hgt
                    go_wp2_with fail
                    go_roundw
                    case rel => exact ⟨j + 1, by omega, by go_num, Lib.hid (by rw [HX.out]; exact HB.out)⟩
                    case measure => simp [intOf]; omega
              · have g6 : decide (j < L.length) = false := by simpa using hlt2
                obtain rfl : j = L.length := by omega
                obtain ⟨p0, p1, p2, _, _, _⟩ := HJ.out.ln.cells3
                obtain ⟨r0, r1, r2, q0, q1, q2⟩ := HJ.out.res.cells3
                have HV := Lib.hid HLI.out.is
                rw [HS.out, ← HBR.out] at HV
                go_wp2_with fail
                refine bodyPost_ret (v := .tuple #[.agg #[.int .u64 s.1, .int .u64 s.2, .int .i64 (baseR s L (eps - 1) L.length)], .int .i64 0]) (results_ct (p := 4) (u := 5) (ty := 106) (t := 106) rfl _ rfl rfl HJ.out.res.set3 Try.underlying106 rfl (by kernel_rfl)) rfl ?_
                unfold OfPost
                rw [HV.out]
                exact ⟨rfl, below_set3 HJ.out.bel (Nat.le_refl _)⟩
      · have hd : decide (L.Pairwise (· < ·)) = false := by simpa using h4
        rw [hd] at RS
        have HV := Lib.hid (lineOf_order (L := L) h1 h2 (.inr h4))
        clear h4 hd
        go_enter Try.func70, Try.ntmps70
        go_wp2_with fail
        refine RS.mono ?_
        rintro e w2 ⟨rfl, k2⟩
        have K2 := Lib.hid (And.intro (B0.out.1.below k2) (below_next B0.out.2 k2))
        obtain ⟨p0, p1, p2, q0, q1, q2⟩ := K2.out.1.cells3
        clear RS k2 N
        go_wp2_with fail
        refine bodyPost_ret (v := .tuple #[.agg #[.int .u64 0, .int .u64 0, .int .i64 0], .int .i64 50]) (results_ct (p := 4) (u := 5) (ty := 106) (t := 106) rfl _ rfl rfl K2.out.1.set3 Try.underlying106 rfl (by kernel_rfl)) rfl (of_err HV.out (below_set3 K2.out.2 (Nat.le_refl _)))
end Go.Proofs.Ytnccgpdniigekaa
