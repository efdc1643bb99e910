/-
  The statements' helpers: 'same' holds two lists of entries against one another; 'kind' is a number modulo 8.
-/
import Derived.Test.YtalhfjcopkmmlaaBfPut
import Derived.Test.YtalhfjcopkmmlaaEqS
namespace Go.Proofs.Ytalhfjcopkmmlaa
open Go.RowKit
set_option linter.unusedVariables false
set_option linter.unusedSimpArgs false

theorem eqEnt (d : Nat) (w : World) (x0 y0 x1 y1 : Int) (x2 y2 : Bool) :
    (Op.equalIn (d + 2) 27 (.agg #[.int .u64 x0, .int .u64 x1, .bool x2]) (.agg #[.int .u64 y0, .int .u64 y1, .bool y2])).run Try.prog w = .ok (x0 == y0 && (x1 == y1 && (x2 == y2 && true))) w := by
  refine equal_struct Try.underlying27 (by kernel_rfl) ?_
  refine eqFields_step (by decide) (by go_simp; rfl) (by go_simp; rfl) (by go_simp) ?_
  refine eqFields_step (by decide) (by go_simp; rfl) (by go_simp; rfl) (by go_simp) ?_
  exact eqFields_step (by decide) (by go_simp; rfl) (by go_simp; rfl) (by go_simp) eqFields_nil
attribute [local go_sem high] eqEnt

/-- Two entries are the same, or differ at the key, at the value, or at the mark. -/
theorem ent_cases (e f : Ent) : (e = f ∧ (e.1 == f.1) = true ∧ (e.2.1 == f.2.1) = true ∧ (e.2.2 == f.2.2) = true) ∨ (e ≠ f ∧ ((e.1 == f.1) = false ∨ (e.1 == f.1) = true ∧ (e.2.1 == f.2.1) = false ∨ (e.1 == f.1) = true ∧ (e.2.1 == f.2.1) = true ∧ (e.2.2 == f.2.2) = false)) := by
  obtain ⟨a, b, c⟩ := e
  obtain ⟨x, y, z⟩ := f
  by_cases h1 : a = x <;> by_cases h2 : b = y <;> by_cases h3 : c = z <;> simp [h1, h2, h3]

theorem take_eq_step {es fs : List Ent} {i : Nat} (h1 : i < es.length) (h2 : i < fs.length) (h : es.take i = fs.take i) (he : es[i] = fs[i]) : es.take (i + 1) = fs.take (i + 1) := by
  rw [List.take_succ_eq_append_getElem h1, List.take_succ_eq_append_getElem h2, h, he]

/-- So far the two lists are the same. -/
def SameTo (es fs : List Ent) (w : World) (x : Value) (wr : World) : Prop := ∃ i : Nat, i ≤ es.length ∧ x = .int .i64 i ∧ es.take i = fs.take i ∧ Below w.heap.size w wr
set_option maxHeartbeats 1000000 in
theorem same_any (es fs : List Ent) (A B : Option Addr) (c d : Nat) (hlen : es.length ≤ 4611686018427387904) (w : World) (h1 : Row w (.slice A es.length c) es) (h2 : Row w (.slice B fs.length d) fs) :
    Calls Try.prog 11 #[.slice A es.length c, .slice B fs.length d] w fun e w' => e = .returned (.bool (decide (es = fs))) ∧ Below w.heap.size w w' := by
  by_cases hl : es.length = fs.length
  · have HL := Lib.hid hl
    have hlb : (((es.length : Nat) : Int) != (fs.length : Int)) = false := by simp [hl]
    clear hl
    go_enter Try.func11, Try.ntmps11
    go_wp2
    go_loopw [5] (fun x wr => SameTo es fs w x wr) (fun x _ => es.length - (intOf x).toNat)
    case atStart => exact ⟨0, Nat.zero_le _, rfl, rfl, Below.refl _ _⟩
    case round =>
      obtain ⟨i, hi, rfl, ht, hb⟩ := hrel
      have r1 : Row wr _ es := Row.below h1 hb
      have r2 : Row wr _ fs := Row.below h2 hb
      have HT := Lib.hid ht
      clear ht
      by_cases hlt : i < es.length
      · have hlt2 : i < fs.length := by have := HL.out; omega
        obtain ⟨g, cap, hv, _⟩ := (Row.form h1).resolve_left (fun h => by rw [h.2] at hlt; simp at hlt)
        obtain ⟨g', cap', hv', _⟩ := (Row.form h2).resolve_left (fun h => by rw [h.2] at hlt2; simp at hlt2)
        injection hv with hA _ hc
        injection hv' with hB _ hd
        subst hA hB hc hd
        obtain ⟨c0, c1, c2⟩ := Row.cells r1 hlt
        obtain ⟨d0, d1, d2⟩ := Row.cells r2 hlt2
        have b1 : (0 : Int) ≤ (i : Int) := by omega
        have b2 : (i : Int) < (es.length : Int) := by omega
        have b3 : (i : Int) < (fs.length : Int) := by omega
        clear h1 h2 r1 r2
        rcases ent_cases es[i] fs[i] with ⟨he, k1, k2, k3⟩ | ⟨he, hk⟩
        · have HE := Lib.hid he
          clear he
          go_wp2
          go_quiet (fail)
          go_wp2
          go_roundw
          case rel => first | exact ⟨i + 1, by omega, by go_num, take_eq_step hlt hlt2 HT.out HE.out, drewN_below hb _⟩ | ((repeat apply Exists.intro); exact ⟨⟨i + 1, by omega, by go_num, take_eq_step hlt hlt2 HT.out HE.out, drewN_below hb _⟩, rfl⟩)
          case measure => simp [intOf]; omega
        · have HE : Hid (decide (es = fs) = false) := Lib.hid (decide_eq_false (fun h => he (by subst h; rfl)))
          clear he
          rcases hk with k1 | ⟨k1, k2⟩ | ⟨k1, k2, k3⟩
          all_goals
            go_wp2
            go_quiet (fail)
            go_wp2
            go_ret
            exact ⟨by rw [HE.out]; rfl, drewN_below hb _⟩
      · have HE : Hid (decide (es = fs) = true) := Lib.hid (decide_eq_true (by
          have := HT.out
          rw [List.take_of_length_le (by omega), List.take_of_length_le (by have := HL.out; omega)] at this; exact this))
        go_wp2
        go_ret
        exact ⟨by rw [HE.out]; rfl, hb⟩
  · have HE : Hid (decide (es = fs) = false) := Lib.hid (decide_eq_false (fun h => hl (by rw [h])))
    have hlb : (((es.length : Nat) : Int) != (fs.length : Int)) = true := by simp; omega
    clear hl
    go_enter Try.func11, Try.ntmps11
    go_wp2
    go_ret
    exact ⟨by rw [HE.out]; rfl, Below.refl _ _⟩

/-- Which of the eight kinds a number tells. -/
def kindN (n : Int) : Nat := ((if n < 0 then -(n + 1) else n) % 8).toNat
theorem kind_any (n : Int) (h1 : -9223372036854775808 ≤ n) (h2 : n ≤ 9223372036854775807) (w : World) :
    Calls Try.prog 7 #[.int .i64 n] w fun e w' => e = .returned (.int .i64 (kindN n)) ∧ w = w' := by
  by_cases hn : n < 0
  · have E : Hid ((kindN n : Int) = -((n + 1).tmod 8)) := Lib.hid (by rw [← Int.neg_tmod, Int.tmod_eq_emod_of_nonneg (by omega)]; unfold kindN; rw [if_pos hn]; omega)
    go_enter Try.func7, Try.ntmps7
    go_wp2
    go_ret
    exact ⟨by rw [E.out]; rfl, rfl⟩
  · have E : Hid ((kindN n : Int) = n % 8) := Lib.hid (by unfold kindN; rw [if_neg hn]; omega)
    go_enter Try.func7, Try.ntmps7
    go_wp2
    go_ret
    exact ⟨by rw [E.out]; rfl, rfl⟩
end Go.Proofs.Ytalhfjcopkmmlaa
