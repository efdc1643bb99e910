/-
  The reference's lowest; its fits in memory.
-/
import Derived.Test.YtanhhgifcolfaaaQHuNarP
namespace Go.Proofs.Ytanhhgifcolfaaa
open Go.RowKit
set_option linter.unusedVariables false
set_option linter.unusedSimpArgs false

theorem gcd_emod' (a b : Int) (ha : 0 ≤ a) (hb : 0 ≤ b) : Int.gcd b (a % b) = Int.gcd a b := by
  rw [Int.gcd_comm b (a % b), gcd_emod b a hb ha, Int.gcd_comm]
set_option maxHeartbeats 1000000 in
theorem ref_lowest (n d : Int) (hn : u64ok n) (hd : u64ok d) (h0 : 0 < d) (w : World) :
    Calls Try.prog 39 #[.int .u64 n, .int .u64 d] w fun e w' => e = .returned (.agg #[.int .u64 (lowest n d).1, .int .u64 (lowest n d).2]) ∧ Below w.heap.size w w' := by
  unfold u64ok at hn hd
  have HL : Hid (lowest n d = (n / (Int.gcd n d : Nat), d / (Int.gcd n d : Nat))) := Lib.hid rfl
  have HG : Hid (0 < ((Int.gcd n d : Nat) : Int) ∧ 0 ≤ n / ((Int.gcd n d : Nat) : Int) ∧ n / ((Int.gcd n d : Nat) : Int) ≤ n ∧ 0 ≤ d / ((Int.gcd n d : Nat) : Int) ∧ d / ((Int.gcd n d : Nat) : Int) ≤ d) := by
    have h : 0 < Int.gcd n d := Int.gcd_pos_of_ne_zero_right _ (by omega)
    exact Lib.hid ⟨by omega, Int.ediv_nonneg hn.1 (by omega), Int.ediv_le_self _ hn.1, Int.ediv_nonneg hd.1 (by omega), Int.ediv_le_self _ hd.1⟩
  go_enter Try.func39, Try.ntmps39
  go_wp2
  go_loop [5, 6] (fun x y => GcdTo n d x y) (fun _ y => (intOf y).toNat)
  case atStart => exact ⟨n, d, rfl, rfl, hn.1, hd.1, .inr h0, by omega, by omega, rfl⟩
  case round =>
    obtain ⟨a, b, rfl, rfl, ha, hb, hab, hb2, ha2, hg⟩ := hrel
    by_cases hp : 0 < b
    · have G := Lib.hid (gcd_emod' a b ha hb)
      have m1 := Int.emod_nonneg a (show b ≠ 0 by omega)
      have m2 := Int.emod_lt_of_pos a hp
      have hb0 : (b == 0) = false := by
        have : b ≠ 0 := by omega
        simpa using this
      have hb1 : (b != 0) = true := by
        have : b ≠ 0 := by omega
        simpa using this
      have tm : a.tmod b = a % b := Int.tmod_eq_emod_of_nonneg ha
      go_wp2
      go_round
      case rel => exact ⟨_, _, rfl, rfl, by omega, by omega, .inl hp, by omega, by omega, by rw [G.out, hg]⟩
      case measure => simp only [intOf]; omega
    · obtain rfl : b = 0 := by omega
      have hgb : ((Int.gcd n d : Nat) : Int) = a := by rw [← hg, Int.gcd_zero_right]; omega
      rw [hgb] at HL HG
      obtain ⟨g0, g1, g2, g3, g4⟩ := HG.out
      have b0 : (a == 0) = false := by
        have : a ≠ 0 := by omega
        simpa using this
      have b1 : a ≠ 0 := by omega
      have t1 : n.tdiv a = n / a := Int.tdiv_eq_ediv_of_nonneg hn.1
      have t2 : d.tdiv a = d / a := Int.tdiv_eq_ediv_of_nonneg hd.1
      go_wp2_with fail
      go_big_region
      all_goals go_wp2_with fail
      all_goals refine bodyPost_ret (v := .agg #[.int .u64 (lowest n d).1, .int .u64 (lowest n d).2]) (results_cl (p := 4) (ty := 39) (t := 39) rfl _ rfl ?_ Try.underlying39 rfl (by kernel_rfl)) rfl ?_
      · rw [HL.out]; exact (Blk.new _ _ _).drew
      · exact ⟨rfl, (below_new (Below.refl _ _) _).drew⟩
/-- The reference's fit behind a pointer. -/
structure RefM (w : World) (b : Nat) (e : Int) (F : Fit) (v : Value) : Prop where
  blk : Blk w b 64 #[.int .i64 (e + 1), v, .int .u64 F.low.1, .int .u64 F.low.2, .int .u64 F.top.1, .int .u64 F.top.2]
  row : w.ownsRow 0 34 1 v F.keys.length (F.keys.map (.int .u64))
/-- The same, and the blocks that are its own. -/
def RefO (w : World) (b : Nat) (e : Int) (F : Fit) (S : Nat → Prop) : Prop := ∃ v, RefM w b e F v ∧ (∃ c0 c1, FitS e F c0 c1) ∧ S = fun k => k = b ∨ v.ownBlock = some k
section
variable {w w' : World} {b : Nat} {e : Int} {F : Fit} {v : Value} {S T : Nat → Prop}
theorem RefM.ne (h : RefM w b e F v) : v.ownBlock ≠ some b := own_ne_blk h.row h.blk (by decide)
theorem RefM.chg (h : RefM w b e F v) (k : Chg T w w') (hb : ¬ T b) (hv : ∀ g, v.ownBlock = some g → ¬ T g) : RefM w' b e F v := ⟨h.blk.chg k hb, own_chg h.row k hv⟩
theorem RefM.below (h : RefM w b e F v) (k : Below w.heap.size w w') : RefM w' b e F v := h.chg (Chg.of_below k) (fun h => h) (fun _ _ h => h)
theorem RefO.lt (h : RefO w b e F S) : ∀ k, S k → k < w.heap.size := by
  obtain ⟨v, M, _, rfl⟩ := h
  rintro k (rfl | h)
  · exact M.blk.lt
  · exact own_lt M.row h
theorem RefO.chg (h : RefO w b e F S) (k : Chg T w w') (hd : ∀ i, S i → ¬ T i) : RefO w' b e F S := by
  obtain ⟨v, M, Q, rfl⟩ := h
  exact ⟨v, M.chg k (hd b (.inl rfl)) (fun g hg => hd g (.inr hg)), Q, rfl⟩
theorem RefO.below (h : RefO w b e F S) (k : Below w.heap.size w w') : RefO w' b e F S := h.chg (Chg.of_below k) (fun _ _ h => h)
theorem RefM.form (h : RefM w b e F v) : ∃ A c, v = .slice A F.keys.length c ∧ (0 < F.keys.length → ∃ g, A = some ⟨g, 0, none⟩ ∧ ∀ i (hi : i < F.keys.length), w.cell? ⟨g, i, none⟩ = some (.int .u64 F.keys[i])) := by
  rcases h.row.2 with ⟨hv, h0⟩ | ⟨g, cap, cur, hv, hr⟩
  · exact ⟨none, 0, by rw [hv, h0], fun h => by omega⟩
  · refine ⟨_, _, hv, fun _ => ⟨g, rfl, fun i hi => ?_⟩⟩
    have hc := World.ownsRow.cells h.row (g := g) (by rw [hv]; rfl) i (.int .u64 F.keys[i]) (by simp [List.getElem?_eq_getElem hi])
    rw [Addr.add_mid, Nat.zero_add] at hc
    exact hc
theorem refO_Count (H : RefO w b e F S) : Calls Try.prog 16 #[.pointer (some ⟨b, 0, none⟩)] w fun e' w' => e' = .returned (.int .i64 F.keys.length) ∧ w = w' := by
  obtain ⟨v, M, Q, rfl⟩ := H
  obtain ⟨A, c, rfl, _⟩ := M.form
  have x : w.cell? ⟨b, 1, none⟩ = some (.slice A F.keys.length c) := M.blk.cell 1
  clear M Q
  go_enter Try.func16, Try.ntmps16
  go_wp2
  go_ret
  exact ⟨rfl, rfl⟩
theorem refO_Least (H : RefO w b e F S) : Calls Try.prog 40 #[.pointer (some ⟨b, 0, none⟩)] w fun e' w' => e' = .returned (.agg #[.int .u64 F.low.1, .int .u64 F.low.2]) ∧ Below w.heap.size w w' := by
  obtain ⟨v, M, Q, rfl⟩ := H
  have N := M.below (below_new (Below.refl _ _) (.cells #[.int .u64 0, .int .u64 0] 39))
  have x0 : (w.alloc (.cells #[.int .u64 0, .int .u64 0] 39)).cell? ⟨b, 2, none⟩ = some (.int .u64 F.low.1) := N.blk.cell 2
  have x1 : (w.alloc (.cells #[.int .u64 0, .int .u64 0] 39)).cell? ⟨b, 3, none⟩ = some (.int .u64 F.low.2) := N.blk.cell 3
  have hb : b < w.heap.size := M.blk.lt
  clear M Q N
  go_enter Try.func40, Try.ntmps40
  go_wp2
  refine bodyPost_ret (v := .agg #[.int .u64 F.low.1, .int .u64 F.low.2]) (results_cl (p := 2) (ty := 39) (t := 39) rfl _ rfl (Blk.new _ _ _) Try.underlying39 rfl (by kernel_rfl)) rfl ?_
  exact ⟨rfl, below_new (Below.refl _ _) _⟩
theorem refO_Most (H : RefO w b e F S) : Calls Try.prog 41 #[.pointer (some ⟨b, 0, none⟩)] w fun e' w' => e' = .returned (.agg #[.int .u64 F.top.1, .int .u64 F.top.2]) ∧ Below w.heap.size w w' := by
  obtain ⟨v, M, Q, rfl⟩ := H
  have N := M.below (below_new (Below.refl _ _) (.cells #[.int .u64 0, .int .u64 0] 39))
  have x0 : (w.alloc (.cells #[.int .u64 0, .int .u64 0] 39)).cell? ⟨b, 4, none⟩ = some (.int .u64 F.top.1) := N.blk.cell 4
  have x1 : (w.alloc (.cells #[.int .u64 0, .int .u64 0] 39)).cell? ⟨b, 5, none⟩ = some (.int .u64 F.top.2) := N.blk.cell 5
  have hb : b < w.heap.size := M.blk.lt
  clear M Q N
  go_enter Try.func41, Try.ntmps41
  go_wp2
  refine bodyPost_ret (v := .agg #[.int .u64 F.top.1, .int .u64 F.top.2]) (results_cl (p := 2) (ty := 39) (t := 39) rfl _ rfl (Blk.new _ _ _) Try.underlying39 rfl (by kernel_rfl)) rfl ?_
  exact ⟨rfl, below_new (Below.refl _ _) _⟩
end
theorem ref_New_bad (eps : Int) (h : eps < 2 ∨ 64 < eps) (w : World) : Calls Try.prog 34 #[.int .i64 eps] w fun e' w' => e' = .returned (.tuple #[.pointer none, .int .i64 1]) ∧ w = w' := by
  by_cases h1 : eps < 2
  · go_enter Try.func34, Try.ntmps34
    go_wp2
    go_ret2
    exact ⟨rfl, rfl⟩
  · have h2 : 64 < eps := by omega
    go_enter Try.func34, Try.ntmps34
    go_wp2
    go_ret2
    exact ⟨rfl, rfl⟩
theorem ref_New (eps : Int) (h1 : 2 ≤ eps) (h2 : eps ≤ 64) (w : World) : Calls Try.prog 34 #[.int .i64 eps] w fun e' w' =>
    e' = .returned (.tuple #[.pointer (some ⟨w.heap.size, 0, none⟩), .int .i64 0]) ∧ Below w.heap.size w w' ∧ RefO w' w.heap.size (eps - 1) Fit.zero (fun k => k = w.heap.size) := by
  have h3 : ¬ eps < 2 := by omega
  have h4 : ¬ 64 < eps := by omega
  go_enter Try.func34, Try.ntmps34
  go_wp2
  go_ret2
  refine ⟨rfl, below_new (Below.refl _ _) _, .slice none 0 0, ⟨?_, World.ownsRow_nil _ _ _ _⟩, ⟨[], [], FitS.zero (by omega) (by omega)⟩, ?_⟩
  · have := Blk.new w 64 #[.int .i64 eps, .slice none 0 0, .int .u64 0, .int .u64 1, .int .u64 1, .int .u64 0]
    rw [show eps - 1 + 1 = eps from by omega]; exact this
  · funext k; simp [Value.ownBlock]
end Go.Proofs.Ytanhhgifcolfaaa
