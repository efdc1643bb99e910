/-
  An argument that is a slice of uint64, opened.
-/
import Derived.Test.YtnccgpdniigekaaQG29
import Derived.Test.YtnccgpdniigekaaQG31
namespace Go.Proofs.Ytnccgpdniigekaa
open Go.ChangeShapes Go.WideShapes Go.RowKit Go.Deep
set_option linter.unusedVariables false
set_option linter.unusedSimpArgs false
theorem wf_u64 {n : Int} (h : (Lit.int .u64 n).wf = true) : u64ok n := by
  have : 0 ≤ n ∧ n ≤ 18446744073709551615 := by simpa [Lit.wf, IntKind.min, IntKind.max, IntKind.signed, IntKind.bits] using h
  unfold u64ok; omega
theorem open_u64s {H : Type} {enc : TypeId × Value → H} {w : World} {base : Nat} {spare : Nat → Bool} {held : Bool} {fuel : Nat} {cs : List Value} {x : DataW H × List MemPlace} (h : DataW.trod enc Try.prog w base spare held fuel 22 cs = some x) :
    ∃ (A : Option Addr) (c : Nat) (L : List Int), cs = [.slice A L.length c] ∧ ArgU w A L ∧ U64s L ∧ ((x.1 = .nil ∧ L = []) ∨ ∃ elems sp, x.1 = .slice elems sp ∧ elems.length = L.length) := by
  rcases open_slice Try.underlying22 h with ⟨rfl, rfl⟩ | ⟨a, len, cap, m, n, D, Pl, rfl, hb, hl, hm, hmm, hx, hi⟩
  · exact ⟨none, 0, [], rfl, fun h => absurd h (by simp), fun k hk => absurd hk (by simp), .inl ⟨rfl, rfl⟩⟩
  · have hlm : len ≤ m := by subst hmm; split <;> omega
    have hC : Try.prog.cellsOf 24 = 1 := by kernel_rfl
    have key : ∀ i, i < len → ∃ k : Int, w.cell? (a.add i) = some (.int .u64 k) ∧ u64ok k := by
      intro i hil
      obtain ⟨cs', hc, ht'⟩ := hi i (by omega)
      rw [hC] at hc
      obtain ⟨_, hcl, hat⟩ := World.cells?_some hc
      obtain ⟨k, e0, _, hk⟩ := DataW.trod_int Try.underlying24 ht'
      subst e0
      have h0 := hat 0 (by simp)
      refine ⟨k, by simpa [Go.Deep.add_add] using h0, wf_u64 hk⟩
    obtain ⟨F, hF⟩ := choose_lt key
    refine ⟨some a, cap, (List.range len).map F, by simp, fun hn => ?_, fun k hk => ?_, .inr ⟨_, _, by rw [hx], by simp⟩⟩
    · have h0 := (hF 0 (by simpa using hn)).1
      obtain ⟨b, o, r⟩ := a
      have hr : r = none := by simpa [Addr.add] using World.cell?_spot h0
      subst hr
      refine ⟨b, o, rfl, World.block_lt_of_cell? w _ (by rw [Addr.add_mid] at h0; exact h0), fun i hil => ?_⟩
      have := (hF i (by simpa using hil)).1
      rw [Addr.add_mid] at this
      simp only [List.getElem_map, List.getElem_range]
      exact this
    · obtain ⟨i, hi', rfl⟩ := List.mem_map.1 hk
      exact (hF i (List.mem_range.1 hi')).2
end Go.Proofs.Ytnccgpdniigekaa
/-
  An argument that is a slice of uint64, opened, its capacity with it.
-/
namespace Go.Proofs.Ytnccgpdniigekaa
open Go.ChangeShapes Go.WideShapes Go.RowKit Go.Deep
set_option linter.unusedVariables false
set_option linter.unusedSimpArgs false
theorem wf_i64 {n : Int} (h : (Lit.int .i64 n).wf = true) : -9223372036854775808 ≤ n ∧ n ≤ 9223372036854775807 := by
  simpa [Lit.wf, IntKind.min, IntKind.max, IntKind.signed, IntKind.bits] using h
theorem open_u64sc {H : Type} {enc : TypeId × Value → H} {w : World} {base : Nat} {spare : Nat → Bool} {held : Bool} {fuel : Nat} {cs : List Value} {x : DataW H × List MemPlace} (h : DataW.trod enc Try.prog w base spare held fuel 22 cs = some x) :
    ∃ (A : Option Addr) (c : Nat) (L : List Int), cs = [.slice A L.length c] ∧ L.length ≤ c ∧ ArgU w A L ∧ U64s L ∧ ((x.1 = .nil ∧ L = []) ∨ ∃ elems sp, x.1 = .slice elems sp ∧ elems.length = L.length) := by
  obtain ⟨A, c, L, h1, h2, h3, h4⟩ := open_u64s h
  refine ⟨A, c, L, h1, ?_, h2, h3, h4⟩
  rcases open_slice Try.underlying22 h with ⟨h5, _⟩ | ⟨a, len, cap, m, n, D, Pl, h5, hb, hl, _⟩
  · rw [h1] at h5
    simp only [List.cons.injEq, Value.slice.injEq, and_true] at h5
    omega
  · rw [h1] at h5
    simp only [List.cons.injEq, Value.slice.injEq, and_true] at h5
    omega
end Go.Proofs.Ytnccgpdniigekaa
