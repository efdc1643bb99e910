/-
  The search in a chain: (*Fit).touching's closure, sort.Search, touching.
-/
import Derived.Test.YtnccgpdniigekaaQHuRow
import Derived.Test.YtnccgpdniigekaaProg
namespace Go.Proofs.Ytnccgpdniigekaa
open Go.RowKit
set_option linter.unusedVariables false
set_option linter.unusedSimpArgs false

/-- A side's sign: the lower chain's (0) -1, the upper's 1. -/
def sgn (side : Int) : Int := if side = 0 then -1 else 1
theorem bend_any (side : Int) (hs : side = 0 ∨ side = 1) (w : World) : Calls Try.prog 111 #[.int .i64 side] w fun e w' => e = .returned (.int .i64 (sgn side)) ∧ w = w' := by
  rcases hs with rfl | rfl
  · exact bend_low w
  · exact bend_up w
/-- Points that are not far off: a key, a small height. -/
def PtOk (p : Pt) : Prop := u64ok p.1 ∧ smallY p.2
theorem cmpI_sign (b x y : Int) (hb : b = -1 ∨ b = 1) : decide (0 ≤ cmpI x y * b) = decide (0 ≤ b * (x - y)) := by
  rcases Int.lt_trichotomy x y with h | h | h <;> rcases hb with rfl | rfl
  · rw [cmpI_lt h]; simp; omega
  · rw [cmpI_lt h]; simp; omega
  · rw [cmpI_eq h]; simp; omega
  · rw [cmpI_eq h]; simp; omega
  · rw [cmpI_gt h]; simp; omega
  · rw [cmpI_gt h]; simp; omega
theorem cmpI_range (x y : Int) : -1 ≤ cmpI x y ∧ cmpI x y ≤ 1 := by unfold cmpI; split <;> (try split) <;> omega
theorem sgn_or (side : Int) : sgn side = -1 ∨ sgn side = 1 := by unfold sgn; split <;> simp
/-- Does the way to p go on to be no better beyond place i of the chain? -/
def stopAt (side : Int) (c : List Pt) (p : Pt) (i : Nat) : Bool := decide (0 ≤ sgn side * steepV (c.getD i (0, 0)) (c.getD (i + 1) (0, 0)) p)

/-- The variables of 'touching' that its closure holds: the chain, the point, the side. -/
structure Held (w : World) (g7 g5 g4 : Nat) (v : Value) (p : Pt) (side : Int) (t7 t5 t4 : TypeId) : Prop where
  c : Blk w g7 t7 #[v]
  p : Blk w g5 t5 #[.int .u64 p.1, .int .i64 p.2]
  s : Blk w g4 t4 #[.int .i64 side]
theorem Held.below {w w' : World} {g7 g5 g4 : Nat} {v : Value} {p : Pt} {side : Int} {t7 t5 t4 : TypeId} (h : Held w g7 g5 g4 v p side t7 t5 t4) (k : Below w.heap.size w w') : Held w' g7 g5 g4 v p side t7 t5 t4 :=
  ⟨h.c.below k, h.p.below k, h.s.below k⟩
/-- What the closure may lean on. -/
structure TS (W : World) (g7 g5 g4 : Nat) (t7 t5 t4 : TypeId) (g cap : Nat) (c : List Pt) (p : Pt) (side : Int) (w : World) : Prop where
  held : Held w g7 g5 g4 (.slice (some ⟨g, 0, none⟩) c.length cap) p side t7 t5 t4
  row : Row w (.slice (some ⟨g, 0, none⟩) c.length cap) c
  bel : Below W.heap.size W w
section
variable {W w w' : World} {g7 g5 g4 : Nat} {t7 t5 t4 : TypeId} {g cap : Nat} {c : List Pt} {p : Pt} {side : Int}
theorem TS.below (h : TS W g7 g5 g4 t7 t5 t4 g cap c p side w) (k : Below w.heap.size w w') : TS W g7 g5 g4 t7 t5 t4 g cap c p side w' := ⟨h.held.below k, h.row.below k, below_next h.bel k⟩
theorem TS.all (h : TS W g7 g5 g4 t7 t5 t4 g cap c p side w) {i j : Nat} (hi : i < c.length) (hj : j < c.length) {ax ay qx qy : Int} (ha : c[i] = (ax, ay)) (hq : c[j] = (qx, qy)) : TS W g7 g5 g4 t7 t5 t4 g cap c p side w ∧
    w.cell? ⟨g7, 0, none⟩ = some (.slice (some ⟨g, 0, none⟩) c.length cap) ∧ w.cell? ⟨g5, 0, none⟩ = some (.int .u64 p.1) ∧ w.cell? ⟨g5, 1, none⟩ = some (.int .i64 p.2) ∧ w.cell? ⟨g4, 0, none⟩ = some (.int .i64 side) ∧
    w.cell? ⟨g, i * 2, none⟩ = some (.int .u64 ax) ∧ w.cell? ⟨g, i * 2 + 1, none⟩ = some (.int .i64 ay) ∧ w.cell? ⟨g, j * 2, none⟩ = some (.int .u64 qx) ∧ w.cell? ⟨g, j * 2 + 1, none⟩ = some (.int .i64 qy) := by
  have h1 := h.row.cells hi
  have h2 := h.row.cells hj
  rw [ha] at h1; rw [hq] at h2
  exact ⟨h, h.held.c.cell 0, h.held.p.cell 0, h.held.p.cell 1, h.held.s.cell 0, h1.1, h1.2, h2.1, h2.2⟩
end
set_option maxHeartbeats 2000000 in
theorem touching1 (g7 g5 g4 : Nat) (t7 t5 t4 : TypeId) (g cap : Nat) (c : List Pt) (p : Pt) (side : Int) (hs : side = 0 ∨ side = 1) (hp : PtOk p) (hc : ∀ u ∈ c, PtOk u ∧ u.1 ≤ p.1) (hlen : c.length ≤ 4611686018427387904) (i : Nat) (hi : i + 1 < c.length) (w : World)
    (H : Held w g7 g5 g4 (.slice (some ⟨g, 0, none⟩) c.length cap) p side t7 t5 t4) (R : Row w (.slice (some ⟨g, 0, none⟩) c.length cap) c) :
    Calls Try.prog 109 #[.int .i64 i, .pointer (some ⟨g7, 0, none⟩), .pointer (some ⟨g5, 0, none⟩), .pointer (some ⟨g4, 0, none⟩)] w fun e w' => e = .returned (.bool (stopAt side c p i)) ∧ Below w.heap.size w w' := by
  obtain ⟨ax, ay, ha⟩ : ∃ ax ay, c[i]'(by omega) = (ax, ay) := ⟨_, _, rfl⟩
  obtain ⟨qx, qy, hq⟩ : ∃ qx qy, c[i + 1] = (qx, qy) := ⟨_, _, rfl⟩
  obtain ⟨px, py⟩ := p
  have oa := hc _ (List.getElem_mem (h := show i < c.length by omega)); rw [ha] at oa
  have oq := hc _ (List.getElem_mem hi); rw [hq] at oq
  have SC := fun w => steeper_any ax ay qx qy px py oa.1.1 oq.1.1 hp.1 oa.1.2 oq.1.2 hp.2 oa.2 oq.2 w
  have BC := fun w => bend_any side hs w
  have E : Hid (stopAt side c (px, py) i = decide (0 ≤ cmpI ((py - ay) * (px - qx)) ((py - qy) * (px - ax)) * sgn side)) := Lib.hid (by
    rw [cmpI_sign _ _ _ (sgn_or side), stopAt, List.getD_eq_getElem?_getD, List.getD_eq_getElem?_getD, List.getElem?_eq_getElem (by omega), List.getElem?_eq_getElem hi, Option.getD_some, Option.getD_some, ha, hq]
    rfl)
  have hx := cmpI_range ((py - ay) * (px - qx)) ((py - qy) * (px - ax))
  generalize cmpI ((py - ay) * (px - qx)) ((py - qy) * (px - ax)) = X at *
  have hb := sgn_or side
  generalize sgn side = B at *
  have a1 : IntKind.i64.wrap (X * B) = X * B := IntWalk.i64_in _ (by rcases hb with rfl | rfl <;> omega)
  have hi' : i < c.length := by omega
  have b4 : (0 : Int) ≤ (i : Int) + 1 := by omega
  have b0 : (0 : Int) ≤ (i : Int) := by omega
  have b1 : (i : Int) < (c.length : Int) := by omega
  have b2 : (i : Int) + 1 < (c.length : Int) := by omega
  have b3 : IntKind.i64.wrap ((i : Int) + 1) = (i : Int) + 1 := IntWalk.i64_in _ (by omega)
  have b5 : ((i : Int) + 1).toNat = i + 1 := by omega
  have b6 : (decide (0 ≤ (i : Int) + 1) && decide ((i : Int) + 1 < (c.length : Int))) = true := by simp; omega
  have C0 : Hid (TS w g7 g5 g4 t7 t5 t4 g cap c (px, py) side w.drew) := Lib.hid ⟨⟨H.c.drew, H.p.drew, H.s.drew⟩, R.drew, (Below.refl _ _).drew⟩
  clear H R hx hb hs hc hp oa oq
  go_enter Try.func109, Try.ntmps109
  go_wp2
  go_region_held3 (fun w' => TS w g7 g5 g4 t7 t5 t4 g cap c (px, py) side w' ∧
    w'.cell? ⟨g7, 0, none⟩ = some (.slice (some ⟨g, 0, none⟩) c.length cap) ∧ w'.cell? ⟨g5, 0, none⟩ = some (.int .u64 px) ∧ w'.cell? ⟨g5, 1, none⟩ = some (.int .i64 py) ∧ w'.cell? ⟨g4, 0, none⟩ = some (.int .i64 side) ∧
    w'.cell? ⟨g, i * 2, none⟩ = some (.int .u64 ax) ∧ w'.cell? ⟨g, i * 2 + 1, none⟩ = some (.int .i64 ay) ∧ w'.cell? ⟨g, (i + 1) * 2, none⟩ = some (.int .u64 qx) ∧ w'.cell? ⟨g, (i + 1) * 2 + 1, none⟩ = some (.int .i64 qy))
    (first | assumption | exact TS.all C0.out hi' hi ha hq | exact TS.all (TS.below (‹TS _ _ _ _ _ _ _ _ _ _ _ _ _ ∧ _›).1 hb') hi' hi ha hq)
    (first | (go_at_call 110; (with_reducible refine (SC _).mono ?_); rintro e w' ⟨rfl, hb'⟩) | (go_at_call 111; (with_reducible refine (BC _).mono ?_); rintro e w' ⟨rfl, rfl⟩))
  all_goals
    go_wp2
    have K := (‹TS _ _ _ _ _ _ _ _ _ _ _ _ _ ∧ _›).1
    go_ret
    exact ⟨by rw [E.out]; rfl, K.bel⟩
theorem mid_le {i j n : Nat} (h : i < j) (hj : j ≤ n) : (i + j) / 2 < n ∧ i ≤ (i + j) / 2 ∧ (i + j) / 2 < j := by omega
/-- Between which places the search is. -/
structure Amid (side : Int) (c : List Pt) (p : Pt) (n i j : Nat) : Prop where
  ij : i ≤ j
  jn : j ≤ n
  lo : i = 0 ∨ stopAt side c p (i - 1) = false
  hi : j = n ∨ stopAt side c p j = true
set_option maxHeartbeats 2000000 in
theorem search_any (g7 g5 g4 : Nat) (t7 t5 t4 : TypeId) (g cap : Nat) (c : List Pt) (p : Pt) (side : Int) (hs : side = 0 ∨ side = 1) (hp : PtOk p) (hc : ∀ u ∈ c, PtOk u ∧ u.1 ≤ p.1) (hlen : c.length ≤ 4611686018427387904) (n : Nat) (hn : n + 1 = c.length) (w : World)
    (H : Held w g7 g5 g4 (.slice (some ⟨g, 0, none⟩) c.length cap) p side t7 t5 t4) (R : Row w (.slice (some ⟨g, 0, none⟩) c.length cap) c) :
    Calls Try.prog 108 #[.int .i64 n, .func (.func 109) #[] #[.pointer (some ⟨g7, 0, none⟩), .pointer (some ⟨g5, 0, none⟩), .pointer (some ⟨g4, 0, none⟩)]] w fun e w' =>
      (∃ i : Nat, e = .returned (.int .i64 i) ∧ Amid side c p n i i) ∧ Below w.heap.size w w' := by
  have TP := touching1 g7 g5 g4 t7 t5 t4 g cap c p side hs hp hc hlen
  have HN := Lib.hid hn
  have H0 := Lib.hid H
  have R0 := Lib.hid R
  have hn2 : n ≤ 4611686018427387904 := by omega
  clear H R hs hp hc hlen hn
  go_enter Try.func108, Try.ntmps108
  go_wp2
  go_loopw [5, 6] (fun x y wr => ∃ i j : Nat, Amid side c p n i j ∧ x = .int .i64 i ∧ y = .int .i64 j ∧ Below w.heap.size w wr)
    (fun x y _ => (intOf y).toNat - (intOf x).toNat)
  case atStart => exact ⟨0, n, ⟨Nat.zero_le _, Nat.le_refl _, .inl rfl, .inl rfl⟩, rfl, rfl, Below.refl _ _⟩
  case round =>
    obtain ⟨i, j, B, rfl, rfl, hb⟩ := hrel
    have hij := B.ij
    have hj := B.jn
    by_cases hlt : i < j
    · have hm := mid_le hlt hj
      have P := TP ((i + j) / 2) (by have := HN.out; omega) wr (H0.out.below hb) (R0.out.below hb)
      by_cases hk : stopAt side c p ((i + j) / 2) = true
      · have B' : Amid side c p n i ((i + j) / 2) := ⟨hm.2.1, by omega, B.lo, .inr hk⟩
        rw [hk] at P
        have BH := Lib.hid B'
        clear B B' hk
        go_wp2_with (go_at_call 109; refine P.mono ?_; rintro e w' ⟨rfl, hb'⟩)
        go_roundw
        case rel => exact ⟨_, _, BH.out, rfl, by go_num, below_next hb hb'⟩
        case measure => simp [intOf]; omega
      · have hk : stopAt side c p ((i + j) / 2) = false := by simpa using hk
        have B' : Amid side c p n ((i + j) / 2 + 1) j := ⟨hm.2.2, hj, .inr (by simpa using hk), B.hi⟩
        rw [hk] at P
        have BH := Lib.hid B'
        clear B B' hk
        go_wp2_with (go_at_call 109; refine P.mono ?_; rintro e w' ⟨rfl, hb'⟩)
        go_roundw
        case rel => exact ⟨_, _, BH.out, by go_num, rfl, below_next hb hb'⟩
        case measure => simp [intOf]; omega
    · obtain rfl : i = j := by omega
      have BH := Lib.hid B
      clear B
      go_wp2
      go_ret
      exact ⟨⟨i, rfl, BH.out⟩, hb⟩
end Go.Proofs.Ytnccgpdniigekaa
