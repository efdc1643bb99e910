/-
  Words for the rows of ratio.
-/
import Derived.Test.YtcnhgblpeonmgaaRowW
import Derived.Test.YtcnhgblpeonmgaaWdPlain
import Derived.ChangeSame
import Derived.Lib.SmallJoins
namespace Go.Proofs.Ytcnhgblpeonmgaa
open Go.RowKit
theorem wf_u64 {n : Int} (h : (Lit.int .u64 n).wf = true) : u64ok n := by
  have : 0 ≤ n ∧ n ≤ 18446744073709551615 := by simpa [Lit.wf, IntKind.min, IntKind.max, IntKind.signed, IntKind.bits] using h
  unfold u64ok; omega
theorem wf_i64 {n : Int} (h : (Lit.int .i64 n).wf = true) : i64ok n := by
  have : -9223372036854775808 ≤ n ∧ n ≤ 9223372036854775807 := by simpa [Lit.wf, IntKind.min, IntKind.max, IntKind.signed, IntKind.bits] using h
  unfold i64ok; omega
open Go.ChangeShapes Go.WideShapes
section
variable {H : Type} {enc : TypeId × Value → H} {P : Program} {w : World} {base : Nat} {spare : Nat → Bool} {held : Bool}
/-- AN ARRAY OF ONE-CELL ELEMENTS, BY VALUE, OPENED. -/
theorem open_arrN {r : Reach} {b0 n : Nat} {t e : TypeId} {v : Value} {d : DataW H} {p : List MemPlace} (hs : P.underlying t = some (.array n e)) (hC : P.cellsOf t = n) (hE : P.cellsOf e = 1)
    (hv : Value.okWide P w r b0 t v) (h : DataW.Trod enc P w base spare held t v d p) :
    ∃ (cs : Array Value) (ys : List (DataW H × List MemPlace)) (m : Nat), v = .agg cs ∧ cs.size = n ∧ d = .agg (ys.map (·.1)) ∧ p = ys.flatMap (·.2) ∧ (List.range n).mapM (fun i => DataW.trod enc P w base spare held m e ((cs.toList.drop i).take 1)) = some ys := by
  simp only [Value.okWide, hs] at hv
  obtain ⟨cs, rfl, h2, _⟩ := hv
  obtain ⟨fuel, hf⟩ := h
  cases fuel with
  | zero => simp [DataW.trod] at hf
  | succ m =>
    rw [DataW.trod_step] at hf
    unfold DataW.trodStep at hf
    simp only [hs, Value.cells, hE] at hf
    rw [if_pos (by simpa using h2)] at hf
    simp only [Option.map_eq_some_iff] at hf
    obtain ⟨ys, hy, e1⟩ := hf
    simp only [Prod.mk.injEq] at e1
    exact ⟨cs, ys, m, rfl, by rw [h2, hC], e1.1.symm, e1.2.symm, by simpa using hy⟩
theorem open_arr2 {r : Reach} {b0 : Nat} {t e : TypeId} {v : Value} {d : DataW H} {p : List MemPlace} (hs : P.underlying t = some (.array 2 e)) (hC : P.cellsOf t = 2) (hE : P.cellsOf e = 1)
    (hv : Value.okWide P w r b0 t v) (h : DataW.Trod enc P w base spare held t v d p) :
    ∃ (v0 v1 : Value) (y0 y1 : DataW H × List MemPlace) (n : Nat), v = .agg #[v0, v1] ∧ d = .agg [y0.1, y1.1] ∧ p = y0.2 ++ (y1.2) ∧
      DataW.trod enc P w base spare held n e [v0] = some y0 ∧ DataW.trod enc P w base spare held n e [v1] = some y1 := by
  obtain ⟨cs, ys, m, rfl, hn, rfl, rfl, hm⟩ := open_arrN hs hC hE hv h
  obtain ⟨c0, c1, rfl⟩ := Joins.array2 hn
  rw [show List.range 2 = [0, 1] from rfl] at hm
  simp only [List.mapM_cons, List.mapM_nil, bind, Option.bind_eq_some_iff, pure, Option.some.injEq] at hm
  obtain ⟨y0, h0, _, ⟨y1, h1, _, rfl, rfl⟩, rfl⟩ := hm
  exact ⟨c0, c1, y0, y1, m, rfl, rfl, by simp, by simpa using h0, by simpa using h1⟩
theorem open_arr4 {r : Reach} {b0 : Nat} {t e : TypeId} {v : Value} {d : DataW H} {p : List MemPlace} (hs : P.underlying t = some (.array 4 e)) (hC : P.cellsOf t = 4) (hE : P.cellsOf e = 1)
    (hv : Value.okWide P w r b0 t v) (h : DataW.Trod enc P w base spare held t v d p) :
    ∃ (v0 v1 v2 v3 : Value) (y0 y1 y2 y3 : DataW H × List MemPlace) (n : Nat), v = .agg #[v0, v1, v2, v3] ∧ d = .agg [y0.1, y1.1, y2.1, y3.1] ∧ p = y0.2 ++ (y1.2 ++ (y2.2 ++ (y3.2))) ∧
      DataW.trod enc P w base spare held n e [v0] = some y0 ∧ DataW.trod enc P w base spare held n e [v1] = some y1 ∧ DataW.trod enc P w base spare held n e [v2] = some y2 ∧ DataW.trod enc P w base spare held n e [v3] = some y3 := by
  obtain ⟨cs, ys, m, rfl, hn, rfl, rfl, hm⟩ := open_arrN hs hC hE hv h
  obtain ⟨c0, c1, c2, c3, rfl⟩ := Joins.array4 hn
  rw [show List.range 4 = [0, 1, 2, 3] from rfl] at hm
  simp only [List.mapM_cons, List.mapM_nil, bind, Option.bind_eq_some_iff, pure, Option.some.injEq] at hm
  obtain ⟨y0, h0, _, ⟨y1, h1, _, ⟨y2, h2, _, ⟨y3, h3, _, rfl, rfl⟩, rfl⟩, rfl⟩, rfl⟩ := hm
  exact ⟨c0, c1, c2, c3, y0, y1, y2, y3, m, rfl, rfl, by simp, by simpa using h0, by simpa using h1, by simpa using h2, by simpa using h3⟩
end
end Go.Proofs.Ytcnhgblpeonmgaa
