/-
  Entries in memory: a slice that owns a row of entries, its cells, and a buffer behind a pointer.
-/
import Derived.Test.YtalhfjcopkmmlaaBfPlain
import Derived.Test.YtalhfjcopkmmlaaChg
namespace Go.Proofs.Ytalhfjcopkmmlaa
open Go.RowKit
set_option linter.unusedVariables false
set_option linter.unusedSimpArgs false

def ecells (e : Ent) : List Value := [.int .u64 e.1, .int .u64 e.2.1, .bool e.2.2]
/-- The cells of entries, one behind the other. -/
def flat (es : List Ent) : List Value := es.flatMap ecells
theorem length_ecells (e : Ent) : (ecells e).length = 3 := rfl
theorem flat_nil : flat [] = [] := rfl
theorem flat_cons (e : Ent) (es : List Ent) : flat (e :: es) = ecells e ++ flat es := rfl
theorem flat_append (a b : List Ent) : flat (a ++ b) = flat a ++ flat b := by simp [flat]
theorem length_flat : ∀ es : List Ent, (flat es).length = es.length * 3
  | [] => rfl
  | e :: es => by rw [flat_cons, List.length_append, length_flat es, length_ecells, List.length_cons]; omega
theorem flat_get : ∀ (es : List Ent) (i j : Nat) (h : i < es.length), j < 3 → (flat es)[i * 3 + j]? = (ecells es[i])[j]?
  | e :: es, 0, j, _, hj => by rw [flat_cons, List.getElem?_append_left (by rw [length_ecells]; omega)]; simp
  | e :: es, i + 1, j, h, hj => by
    rw [flat_cons, List.getElem?_append_right (by rw [length_ecells]; omega), length_ecells]
    have := flat_get es i j (by simpa using h) hj
    rw [show (i + 1) * 3 + j - 3 = i * 3 + j from by omega, this]
    rfl
theorem flat_one (es : List Ent) : ∀ u ∈ flat es, u.oneCell' = true := by
  intro u hu
  obtain ⟨e, _, he⟩ := List.mem_flatMap.1 hu
  simp [ecells] at he
  rcases he with rfl | rfl | rfl <;> rfl
theorem flat_take (es : List Ent) (n : Nat) : flat (es.take n) = (flat es).take (n * 3) := by
  induction es generalizing n with
  | nil => simp [flat_nil]
  | cons e es ih =>
    cases n with
    | zero => simp [flat_nil]
    | succ n => rw [List.take_succ_cons, flat_cons, flat_cons, ih, List.take_append, length_ecells, List.take_of_length_le (l := ecells e) (by rw [length_ecells]; omega), show (n + 1) * 3 - 3 = n * 3 from by omega]
theorem flat_drop (es : List Ent) (n : Nat) : flat (es.drop n) = (flat es).drop (n * 3) := by
  have h : flat es = flat (es.take n) ++ flat (es.drop n) := by rw [← flat_append, List.take_append_drop]
  by_cases hn : n ≤ es.length
  · have hl : (flat (es.take n)).length = n * 3 := by rw [length_flat, List.length_take, Nat.min_eq_left hn]
    rw [h, ← hl, List.drop_append_of_le_length (Nat.le_refl _), List.drop_length, List.nil_append]
  · rw [List.drop_of_length_le (by omega), List.drop_of_length_le (by rw [length_flat]; omega)]; rfl

/-- The slice v owns a row of just these entries. -/
def Row (w : World) (v : Value) (es : List Ent) : Prop := w.ownsRow 0 27 3 v es.length (flat es)
theorem Row.nil (w : World) : Row w (.slice none 0 0) [] := World.ownsRow_nil w _ _ _
theorem Row.cells {w : World} {g n cap : Nat} {es : List Ent} (h : Row w (.slice (some ⟨g, 0, none⟩) n cap) es) {i : Nat} (hi : i < es.length) :
    w.cell? ⟨g, i * 3, none⟩ = some (.int .u64 es[i].1) ∧ w.cell? ⟨g, i * 3 + 1, none⟩ = some (.int .u64 es[i].2.1) ∧ w.cell? ⟨g, i * 3 + 2, none⟩ = some (.bool es[i].2.2) := by
  have hc := World.ownsRow.cells h (g := g) rfl
  have key : ∀ j, j < 3 → w.cell? ⟨g, i * 3 + j, none⟩ = (ecells es[i])[j]? := by
    intro j hj
    have := hc (i * 3 + j) ((ecells es[i])[j]'(by rw [length_ecells]; exact hj)) (by rw [flat_get es i j hi hj, List.getElem?_eq_getElem])
    rw [Addr.add_mid] at this
    rw [List.getElem?_eq_getElem (by rw [length_ecells]; exact hj), ← this]
    simp
  exact ⟨by simpa [ecells] using key 0 (by omega), by simpa [ecells] using key 1 (by omega), by simpa [ecells] using key 2 (by omega)⟩
theorem Row.form {w : World} {v : Value} {es : List Ent} (h : Row w v es) : (v = .slice none 0 0 ∧ es = []) ∨ ∃ g cap, v = .slice (some ⟨g, 0, none⟩) es.length cap ∧ g < w.heap.size ∧ es.length ≤ cap ∧ cap ≤ maxLen := by
  rcases h.2 with ⟨hv, h0⟩ | ⟨g, cap, cur, hv, _, hg, hn, hm, _⟩
  · exact .inl ⟨hv, List.eq_nil_of_length_eq_zero h0⟩
  · exact .inr ⟨g, cap, hv, Blk.lt (t := 27) hg, hn, hm⟩
theorem Row.val {w : World} {v : Value} {es : List Ent} (h : Row w v es) : ∃ A c, v = .slice A es.length c := by
  rcases h.form with ⟨rfl, rfl⟩ | ⟨g, cap, rfl, _⟩
  · exact ⟨_, _, rfl⟩
  · exact ⟨_, _, rfl⟩
theorem Row.cur {w : World} {g n cap : Nat} {es : List Ent} (h : Row w (.slice (some ⟨g, 0, none⟩) n cap) es) :
    n = es.length ∧ ∃ cur : Array Value, Blk w g 27 cur ∧ es.length ≤ cap ∧ cap ≤ maxLen ∧ cur.size = cap * 3 ∧ cur.toList.take (es.length * 3) = flat es := by
  rcases h.2 with ⟨hv, _⟩ | ⟨g', cap', cur, hv, _, hg, hn, hm, hs, ht⟩
  · cases hv
  · injection hv with h1 h2 h3
    injection h1 with h1; injection h1 with h1
    subst h1 h3
    exact ⟨h2, cur, hg, hn, hm, hs, ht⟩
theorem Row.mk' {w : World} {g cap : Nat} {es : List Ent} {cur : Array Value} (hg : Blk w g 27 cur) (hn : es.length ≤ cap) (hm : cap ≤ maxLen) (hs : cur.size = cap * 3) (ht : cur.toList.take (es.length * 3) = flat es) :
    Row w (.slice (some ⟨g, 0, none⟩) es.length cap) es := ⟨length_flat es, .inr ⟨g, cap, cur, rfl, Nat.zero_le _, hg, hn, hm, hs, ht⟩⟩
theorem Row.chg {S : Nat → Prop} {w w' : World} {v : Value} {es : List Ent} (h : Row w v es) (k : Chg S w w') (hv : ∀ g, v.ownBlock = some g → ¬ S g) : Row w' v es := own_chg h k hv
theorem Row.below {w w' : World} {v : Value} {es : List Ent} (h : Row w v es) (k : Below w.heap.size w w') : Row w' v es := own_chg h (Chg.of_below k) (fun _ _ h => h)
theorem Row.lt {w : World} {v : Value} {es : List Ent} (h : Row w v es) {g : Nat} (hg : v.ownBlock = some g) : g < w.heap.size := own_lt h hg

/-- A buffer behind a pointer: room for so many, these entries, its slice. -/
structure Buf (w : World) (b : Nat) (most : Int) (es : List Ent) (v : Value) : Prop where
  blk : Blk w b 53 #[.int .i64 most, v]
  row : Row w v es
theorem Buf.chg {S : Nat → Prop} {w w' : World} {b : Nat} {most : Int} {es : List Ent} {v : Value} (h : Buf w b most es v) (k : Chg S w w') (hb : ¬ S b) (hv : ∀ g, v.ownBlock = some g → ¬ S g) : Buf w' b most es v :=
  ⟨h.blk.chg k hb, h.row.chg k hv⟩
theorem Buf.below {w w' : World} {b : Nat} {most : Int} {es : List Ent} {v : Value} (h : Buf w b most es v) (k : Below w.heap.size w w') : Buf w' b most es v :=
  h.chg (Chg.of_below k) (fun h => h) (fun _ _ h => h)
theorem Buf.ne {w : World} {b : Nat} {most : Int} {es : List Ent} {v : Value} (h : Buf w b most es v) : v.ownBlock ≠ some b := own_ne_blk h.row h.blk (by decide)
theorem Buf.ne' {w : World} {b b' : Nat} {most most' : Int} {es es' : List Ent} {v v' : Value} (h : Buf w b most es v) (h' : Buf w b' most' es' v') : v'.ownBlock ≠ some b := own_ne_blk h'.row h.blk (by decide)
theorem Row.drew {w : World} {v : Value} {es : List Ent} (h : Row w v es) : Row w.drew v es := h
theorem Buf.drew {w : World} {b : Nat} {most : Int} {es : List Ent} {v : Value} (h : Buf w b most es v) : Buf w.drew b most es v := ⟨h.blk, h.row⟩
/-- The blocks that a buffer has. -/
def Foot (b : Nat) (v : Value) (k : Nat) : Prop := k = b ∨ v.ownBlock = some k
end Go.Proofs.Ytalhfjcopkmmlaa
