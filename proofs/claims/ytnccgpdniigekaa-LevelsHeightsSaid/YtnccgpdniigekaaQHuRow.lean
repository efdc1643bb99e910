/-
  Points in memory: a slice that owns a row of points, its cells.
-/
import Derived.Test.YtnccgpdniigekaaQHuLow
import Derived.Test.YtnccgpdniigekaaQChg
namespace Go.Proofs.Ytnccgpdniigekaa
open Go.RowKit
set_option linter.unusedVariables false
set_option linter.unusedSimpArgs false

def pcells (e : Pt) : List Value := [.int .u64 e.1, .int .i64 e.2]
/-- The cells of entries, one behind the other. -/
def flat (es : List Pt) : List Value := es.flatMap pcells
theorem length_pcells (e : Pt) : (pcells e).length = 2 := rfl
theorem flat_nil : flat [] = [] := rfl
theorem flat_cons (e : Pt) (es : List Pt) : flat (e :: es) = pcells e ++ flat es := rfl
theorem flat_append (a b : List Pt) : flat (a ++ b) = flat a ++ flat b := by simp [flat]
theorem length_flat : ∀ es : List Pt, (flat es).length = es.length * 2
  | [] => rfl
  | e :: es => by rw [flat_cons, List.length_append, length_flat es, length_pcells, List.length_cons]; omega
theorem flat_get : ∀ (es : List Pt) (i j : Nat) (h : i < es.length), j < 2 → (flat es)[i * 2 + j]? = (pcells es[i])[j]?
  | e :: es, 0, j, _, hj => by rw [flat_cons, List.getElem?_append_left (by rw [length_pcells]; omega)]; simp
  | e :: es, i + 1, j, h, hj => by
    rw [flat_cons, List.getElem?_append_right (by rw [length_pcells]; omega), length_pcells]
    have := flat_get es i j (by simpa using h) hj
    rw [show (i + 1) * 2 + j - 2 = i * 2 + j from by omega, this]
    rfl
theorem flat_one (es : List Pt) : ∀ u ∈ flat es, u.oneCell' = true := by
  intro u hu
  obtain ⟨e, _, he⟩ := List.mem_flatMap.1 hu
  simp [pcells] at he
  rcases he with rfl | rfl <;> rfl
theorem flat_take (es : List Pt) (n : Nat) : flat (es.take n) = (flat es).take (n * 2) := by
  induction es generalizing n with
  | nil => simp [flat_nil]
  | cons e es ih =>
    cases n with
    | zero => simp [flat_nil]
    | succ n => rw [List.take_succ_cons, flat_cons, flat_cons, ih, List.take_append, length_pcells, List.take_of_length_le (l := pcells e) (by rw [length_pcells]; omega), show (n + 1) * 2 - 2 = n * 2 from by omega]
theorem flat_drop (es : List Pt) (n : Nat) : flat (es.drop n) = (flat es).drop (n * 2) := by
  have h : flat es = flat (es.take n) ++ flat (es.drop n) := by rw [← flat_append, List.take_append_drop]
  by_cases hn : n ≤ es.length
  · have hl : (flat (es.take n)).length = n * 2 := by rw [length_flat, List.length_take, Nat.min_eq_left hn]
    rw [h, ← hl, List.drop_append_of_le_length (Nat.le_refl _), List.drop_length, List.nil_append]
  · rw [List.drop_of_length_le (by omega), List.drop_of_length_le (by rw [length_flat]; omega)]; rfl

/-- The slice v owns a row of just these entries. -/
def Row (w : World) (v : Value) (es : List Pt) : Prop := w.ownsRow 0 139 2 v es.length (flat es)
theorem Row.nil (w : World) : Row w (.slice none 0 0) [] := World.ownsRow_nil w _ _ _
theorem Row.cells {w : World} {g n cap : Nat} {es : List Pt} (h : Row w (.slice (some ⟨g, 0, none⟩) n cap) es) {i : Nat} (hi : i < es.length) :
    w.cell? ⟨g, i * 2, none⟩ = some (.int .u64 es[i].1) ∧ w.cell? ⟨g, i * 2 + 1, none⟩ = some (.int .i64 es[i].2) := by
  have hc := World.ownsRow.cells h (g := g) rfl
  have key : ∀ j, j < 2 → w.cell? ⟨g, i * 2 + j, none⟩ = (pcells es[i])[j]? := by
    intro j hj
    have := hc (i * 2 + j) ((pcells es[i])[j]'(by rw [length_pcells]; exact hj)) (by rw [flat_get es i j hi hj, List.getElem?_eq_getElem])
    rw [Addr.add_mid] at this
    rw [List.getElem?_eq_getElem (by rw [length_pcells]; exact hj), ← this]
    simp
  exact ⟨by simpa [pcells] using key 0 (by omega), by simpa [pcells] using key 1 (by omega)⟩
theorem Row.form {w : World} {v : Value} {es : List Pt} (h : Row w v es) : (v = .slice none 0 0 ∧ es = []) ∨ ∃ g cap, v = .slice (some ⟨g, 0, none⟩) es.length cap ∧ g < w.heap.size ∧ es.length ≤ cap ∧ cap ≤ maxLen := by
  rcases h.2 with ⟨hv, h0⟩ | ⟨g, cap, cur, hv, _, hg, hn, hm, _⟩
  · exact .inl ⟨hv, List.eq_nil_of_length_eq_zero h0⟩
  · exact .inr ⟨g, cap, hv, Blk.lt (t := 139) hg, hn, hm⟩
theorem Row.val {w : World} {v : Value} {es : List Pt} (h : Row w v es) : ∃ A c, v = .slice A es.length c := by
  rcases h.form with ⟨rfl, rfl⟩ | ⟨g, cap, rfl, _⟩
  · exact ⟨_, _, rfl⟩
  · exact ⟨_, _, rfl⟩
theorem Row.cur {w : World} {g n cap : Nat} {es : List Pt} (h : Row w (.slice (some ⟨g, 0, none⟩) n cap) es) :
    n = es.length ∧ ∃ cur : Array Value, Blk w g 139 cur ∧ es.length ≤ cap ∧ cap ≤ maxLen ∧ cur.size = cap * 2 ∧ cur.toList.take (es.length * 2) = flat es := by
  rcases h.2 with ⟨hv, _⟩ | ⟨g', cap', cur, hv, _, hg, hn, hm, hs, ht⟩
  · cases hv
  · injection hv with h1 h2 h3
    injection h1 with h1; injection h1 with h1
    subst h1 h3
    exact ⟨h2, cur, hg, hn, hm, hs, ht⟩
theorem Row.mk' {w : World} {g cap : Nat} {es : List Pt} {cur : Array Value} (hg : Blk w g 139 cur) (hn : es.length ≤ cap) (hm : cap ≤ maxLen) (hs : cur.size = cap * 2) (ht : cur.toList.take (es.length * 2) = flat es) :
    Row w (.slice (some ⟨g, 0, none⟩) es.length cap) es := ⟨length_flat es, .inr ⟨g, cap, cur, rfl, Nat.zero_le _, hg, hn, hm, hs, ht⟩⟩
theorem Row.chg {S : Nat → Prop} {w w' : World} {v : Value} {es : List Pt} (h : Row w v es) (k : Chg S w w') (hv : ∀ g, v.ownBlock = some g → ¬ S g) : Row w' v es := own_chg h k hv
theorem Row.below {w w' : World} {v : Value} {es : List Pt} (h : Row w v es) (k : Below w.heap.size w w') : Row w' v es := own_chg h (Chg.of_below k) (fun _ _ h => h)
theorem Row.lt {w : World} {v : Value} {es : List Pt} (h : Row w v es) {g : Nat} (hg : v.ownBlock = some g) : g < w.heap.size := own_lt h hg

theorem Row.drewN {w : World} {v : Value} {es : List Pt} (h : Row w v es) (n : Nat) : Row (w.drewN n) v es := h
theorem Row.take {w : World} {g n cap : Nat} {es : List Pt} (h : Row w (.slice (some ⟨g, 0, none⟩) n cap) es) {m : Nat} (hm : m ≤ es.length) : Row w (.slice (some ⟨g, 0, none⟩) m cap) (es.take m) := by
  obtain ⟨_, cur, hb, hn, hx, hs, ht⟩ := h.cur
  have hl : (es.take m).length = m := by rw [List.length_take]; omega
  have := Row.mk' (es := es.take m) (cap := cap) hb (by omega) hx hs (by
    rw [hl, flat_take, ← ht, List.take_take, Nat.min_eq_left (by omega)])
  rwa [hl] at this
theorem infoP : (Try.prog.info? 139).map (fun i => (i.zero, i.size, i.bytes)) = some (some (.agg #[.int .u64 0, .int .i64 0]), 2, 16) := by kernel_rfl
end Go.Proofs.Ytnccgpdniigekaa
