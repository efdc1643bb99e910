/-
  Where a key stands in a buffer: cmp.Compare, the comparing closure, slices.BinarySearchFunc, place.
-/
import Derived.Test.YtalhfjcopkmmlaaBfRow
import Derived.Test.YtalhfjcopkmmlaaProg
namespace Go.Proofs.Ytalhfjcopkmmlaa
open Go.RowKit
set_option linter.unusedVariables false
set_option linter.unusedSimpArgs false

/-- The order of two numbers: -1, 0, 1. -/
def cmpK (x y : Int) : Int := if x < y then -1 else if x = y then 0 else 1
theorem cmpK_lt {x y : Int} (h : x < y) : cmpK x y = -1 := by unfold cmpK; rw [if_pos h]
theorem cmpK_eq {x y : Int} (h : x = y) : cmpK x y = 0 := by unfold cmpK; rw [if_neg (by omega), if_pos h]
theorem cmpK_gt {x y : Int} (h : y < x) : cmpK x y = 1 := by unfold cmpK; rw [if_neg (by omega), if_neg (by omega)]
set_option maxHeartbeats 800000 in
theorem compareK (x y : Int) (w : World) : Calls Try.prog 30 #[.int .u64 x, .int .u64 y] w fun e w' => e = .returned (.int .i64 (cmpK x y)) ∧ w = w' := by
  by_cases h1 : x < y
  · have E := Lib.hid (cmpK_lt h1)
    go_enter Try.func30, Try.ntmps30
    go_wp2
    go_ret
    exact ⟨by rw [E.out]; rfl, rfl⟩
  · by_cases h2 : y < x
    · have E := Lib.hid (cmpK_gt h2)
      go_enter Try.func30, Try.ntmps30
      go_wp2
      go_ret
      exact ⟨by rw [E.out]; rfl, rfl⟩
    · have E := Lib.hid (cmpK_eq (show x = y by omega))
      go_enter Try.func30, Try.ntmps30
      go_wp2
      go_ret
      exact ⟨by rw [E.out]; rfl, rfl⟩

set_option maxHeartbeats 800000 in
theorem place1 (e : Ent) (k : Int) (w : World) :
    Calls Try.prog 29 #[.agg #[.int .u64 e.1, .int .u64 e.2.1, .bool e.2.2], .int .u64 k] w fun e' w' => e' = .returned (.int .i64 (cmpK e.1 k)) ∧ Below w.heap.size w w' := by
  go_enter Try.func29, Try.ntmps29
  go_wp2_with (go_at_call 30; refine (compareK _ _ _).mono ?_; rintro e' w' ⟨rfl, rfl⟩)
  go_ret
  exact ⟨rfl, below_new (Below.refl _ _) _⟩

theorem place1_lt (e : Ent) (k : Int) (h : e.1 < k) (w : World) :
    Calls Try.prog 29 #[.agg #[.int .u64 e.1, .int .u64 e.2.1, .bool e.2.2], .int .u64 k] w fun e' w' => e' = .returned (.int .i64 (-1)) ∧ Below w.heap.size w w' := by
  have := place1 e k w; rw [cmpK_lt h] at this; exact this
theorem place1_eq (e : Ent) (k : Int) (h : e.1 = k) (w : World) :
    Calls Try.prog 29 #[.agg #[.int .u64 e.1, .int .u64 e.2.1, .bool e.2.2], .int .u64 k] w fun e' w' => e' = .returned (.int .i64 0) ∧ Below w.heap.size w w' := by
  have := place1 e k w; rw [cmpK_eq h] at this; exact this
theorem place1_gt (e : Ent) (k : Int) (h : k < e.1) (w : World) :
    Calls Try.prog 29 #[.agg #[.int .u64 e.1, .int .u64 e.2.1, .bool e.2.2], .int .u64 k] w fun e' w' => e' = .returned (.int .i64 1) ∧ Below w.heap.size w w' := by
  have := place1 e k w; rw [cmpK_gt h] at this; exact this

theorem search_empty (k : Int) (w : World) :
    Calls Try.prog 28 #[.slice none 0 0, .int .u64 k, .func (.func 29) #[] #[]] w fun e w' =>
      e = .returned (.tuple #[.int .i64 0, .bool false]) ∧ Below w.heap.size w w' := by
  go_enter Try.func28, Try.ntmps28
  go_wp2
  refine wp_loop_rounds 1 ?_
  rw [rounds_succ]
  go_wp2
  go_ret2
  exact ⟨rfl, Below.refl _ _⟩

theorem mid_le {i j n : Nat} (h : i < j) (hj : j ≤ n) : (i + j) / 2 < n ∧ i ≤ (i + j) / 2 ∧ (i + j) / 2 < j := by omega
/-- What the search's loop knows of places i and j. -/
structure Between (k : Int) (es : List Ent) (i j : Nat) : Prop where
  ij : i ≤ j
  jn : j ≤ es.length
  lo : ∀ t (h : t < es.length), t < i → es[t].1 < k
  hi : ∀ t (h : t < es.length), j ≤ t → ¬ es[t].1 < k
theorem Between.start (k : Int) (es : List Ent) : Between k es 0 es.length := ⟨Nat.zero_le _, Nat.le_refl _, fun _ _ h => absurd h (by omega), fun t h h' => absurd h' (by omega)⟩
theorem Between.up {k : Int} {es : List Ent} {i j m : Nat} (h : Between k es i j) (hr : Rises es) (hm : m < j) (hl : (es[m]'(Nat.lt_of_lt_of_le hm h.jn)).1 < k) : Between k es (m + 1) j :=
  ⟨hm, h.jn, fun t ht htm => by
    rcases Nat.lt_or_ge t m with h1 | h1
    · have := hr.lt h1 (Nat.lt_of_lt_of_le hm h.jn); omega
    · obtain rfl : t = m := by omega
      exact hl, h.hi⟩
theorem Between.down {k : Int} {es : List Ent} {i j m : Nat} (h : Between k es i j) (hr : Rises es) (him : i ≤ m) (hm : m < j) (hl : ¬ (es[m]'(Nat.lt_of_lt_of_le hm h.jn)).1 < k) : Between k es i m :=
  ⟨him, by have := h.jn; omega, h.lo, fun t ht htm => by
    rcases Nat.lt_or_ge m t with h1 | h1
    · have := hr.lt h1 ht; omega
    · obtain rfl : t = m := by omega
      exact hl⟩
theorem Between.found {k : Int} {es : List Ent} {i : Nat} (h : Between k es i i) : i = rk k es := rk_eq k es i h.jn h.lo (fun hi => h.hi i hi (Nat.le_refl _))

set_option maxHeartbeats 1000000 in
theorem search_any (k : Int) (es : List Ent) (hr : Rises es) (g cap : Nat) (w : World) (hw : Row w (.slice (some ⟨g, 0, none⟩) es.length cap) es) (hlen : es.length ≤ 4611686018427387904) :
    Calls Try.prog 28 #[.slice (some ⟨g, 0, none⟩) es.length cap, .int .u64 k, .func (.func 29) #[] #[]] w fun e w' =>
      e = .returned (.tuple #[.int .i64 (rk k es), .bool (there k es)]) ∧ Below w.heap.size w w' := by
  go_enter Try.func28, Try.ntmps28
  go_wp2
  go_loopw [9, 10] (fun x y wr => ∃ i j : Nat, Between k es i j ∧ x = .int .i64 i ∧ y = .int .i64 j ∧ Below w.heap.size w wr)
    (fun x y _ => (intOf y).toNat - (intOf x).toNat)
  case atStart => exact ⟨0, es.length, Between.start k es, rfl, rfl, Below.refl _ _⟩
  case round =>
    obtain ⟨i, j, B, rfl, rfl, hb⟩ := hrel
    have hwr : Row wr (.slice (some ⟨g, 0, none⟩) es.length cap) es := Row.below hw hb
    have hij := B.ij
    have hj := B.jn
    by_cases hlt : i < j
    · have hm := mid_le hlt hj
      obtain ⟨c0, c1, c2⟩ := hwr.cells hm.1
      have HW := Lib.hid hwr
      clear hwr hw
      by_cases hk : es[(i + j) / 2].1 < k
      · have P := place1_lt es[(i + j) / 2] k hk
        have B' := B.up hr hm.2.2 hk
        have HK := Lib.hid hk; clear hk
        go_wp2_with (go_at_call 29; refine (P _).mono ?_; rintro e w' ⟨rfl, hb'⟩)
        go_roundw
        case rel => exact ⟨_, _, B', by go_num, rfl, below_next hb hb'⟩
        case measure => simp [intOf]; omega
      · by_cases hk2 : es[(i + j) / 2].1 = k
        · have P := place1_eq es[(i + j) / 2] k hk2
          have B' := B.down hr hm.2.1 hm.2.2 hk
          have HK := Lib.hid hk; clear hk
          have HK2 := Lib.hid hk2; clear hk2
          go_wp2_with (go_at_call 29; refine (P _).mono ?_; rintro e w' ⟨rfl, hb'⟩)
          go_roundw
          case rel => exact ⟨_, _, B', rfl, by go_num, below_next hb hb'⟩
          case measure => simp [intOf]; omega
        · have P := place1_gt es[(i + j) / 2] k (by omega)
          have B' := B.down hr hm.2.1 hm.2.2 hk
          have HK := Lib.hid hk; clear hk
          have HK2 := Lib.hid hk2; clear hk2
          go_wp2_with (go_at_call 29; refine (P _).mono ?_; rintro e w' ⟨rfl, hb'⟩)
          go_roundw
          case rel => exact ⟨_, _, B', rfl, by go_num, below_next hb hb'⟩
          case measure => simp [intOf]; omega
    · obtain rfl : i = j := by omega
      have hi := B.found
      by_cases hn : i < es.length
      · obtain ⟨c0, c1, c2⟩ := hwr.cells hn
        have HW := Lib.hid hwr
        clear hwr hw
        have hk : ¬ es[i].1 < k := B.hi i hn (Nat.le_refl _)
        have ht : there k es = (es[i].1 == k) := by
          have := there_of_lt (k := k) (es := es) (by omega); simp only [← hi] at this; exact this
        by_cases hk2 : es[i].1 = k
        · have P := place1_eq es[i] k hk2
          have E : Hid (there k es = true) := Lib.hid (by rw [ht]; simpa using hk2)
          have HI := Lib.hid hi; clear hi
          have HT := Lib.hid ht; clear ht
          have HK := Lib.hid hk; clear hk
          have HK2 := Lib.hid hk2; clear hk2
          go_wp2_with (go_at_call 29; refine (P _).mono ?_; rintro e w' ⟨rfl, hb'⟩)
          go_ret2
          exact ⟨by rw [E.out, ← HI.out]; rfl, below_next hb hb'⟩
        · have P := place1_gt es[i] k (by omega)
          have E : Hid (there k es = false) := Lib.hid (by rw [ht]; simpa using hk2)
          have HI := Lib.hid hi; clear hi
          have HT := Lib.hid ht; clear ht
          have HK := Lib.hid hk; clear hk
          have HK2 := Lib.hid hk2; clear hk2
          go_wp2_with (go_at_call 29; refine (P _).mono ?_; rintro e w' ⟨rfl, hb'⟩)
          go_ret2
          exact ⟨by rw [E.out, ← HI.out]; rfl, below_next hb hb'⟩
      · have E : Hid (there k es = false) := Lib.hid (there_end (by rw [← hi]; exact hn))
        have HI := Lib.hid hi; clear hi
        go_wp2
        go_ret2
        exact ⟨by rw [E.out, ← HI.out]; rfl, hb⟩
end Go.Proofs.Ytalhfjcopkmmlaa
