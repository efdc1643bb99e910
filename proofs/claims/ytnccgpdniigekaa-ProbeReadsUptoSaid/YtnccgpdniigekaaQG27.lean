/-
  Plain: the examples of 'shown'.
-/
import Derived.Test.YtnccgpdniigekaaQG26
namespace Go.Proofs.Ytnccgpdniigekaa
open Go.RowKit
set_option linter.unusedVariables false
set_option linter.unusedSimpArgs false

theorem mh_one {eps : Int} (h1 : 2 ≤ eps) (h2 : eps ≤ 64) : 1 ≤ mhI 4294967296 eps := by
  unfold mhI; rw [if_neg (by omega)]
  have := (maxH_le (eps := eps.toNat) (by omega) 4294967296 (by omega)).1
  have e : (4294967296 : Int).toNat = 4294967296 := rfl
  rw [e]; omega
theorem chk_single {K : List Int} {eps c : Int} {l : List Sg} (h1 : 2 ≤ eps) (h2 : eps ≤ 64) (h3 : K.Pairwise (· < ·)) (h4 : 0 < K.length) (h5 : levE eps [l] K = c) : chkI K eps [l] = c := by
  have := mh_one h1 h2
  unfold chkI
  have hx : ¬ (mhI 4294967296 eps < (([l] : List (List Sg)).length : Int) ∨ ¬ (([l] : List (List Sg)).length = 0 ↔ K.length = 0)) := by
    rintro (h | h)
    · simp at h; omega
    · exact h ⟨fun hh => by simp at hh, fun hh => by omega⟩
  rw [if_neg (by omega), if_neg (by simp [h3]), if_neg hx, if_neg (by simp), h5]
/-- One level, in blocks of its own. -/
theorem ask_one {w : World} {g1 g2 g3 c1 c2 : Nat} {K : List Int} {l : List Sg} (hK : U64s K) (hn : K.length ≤ 100) (hc : K.length ≤ c1) (hl : l.length ≤ 100) (hok : ∀ s ∈ l, SgOk s)
    (h1 : Blk w g1 24 (K.map (Value.int .u64)).toArray) (h2 : Blk w g2 33 (sflat l).toArray) (h3 : Blk w g3 30 #[.slice (some ⟨g2, 0, none⟩) l.length c2]) :
    AskC w (some ⟨g1, 0, none⟩) c1 K (some ⟨g3, 0, none⟩) [l] where
  ok := hK
  len := by omega
  cap := hc
  arg := arg_blk_u h1
  segs := by intro l' hl'; simp at hl'; subst hl'; exact hok
  lens := by intro l' hl'; simp at hl'; subst hl'; omega
  count := by simp
  args := fun _ => ⟨g3, 0, rfl, h3.lt, fun i hi => by
    obtain rfl : i = 0 := by simp at hi; omega
    exact ⟨some ⟨g2, 0, none⟩, c2, (h3.cell 0), args_blk h2⟩⟩
end Go.Proofs.Ytnccgpdniigekaa
/-
  'shown' of the laws of levels is true.
-/
namespace Go.Proofs.Ytnccgpdniigekaa
open Go.RowKit
set_option linter.unusedVariables false
set_option linter.unusedSimpArgs false
attribute [local go_sem high] run_store_float

/-- What is looked at in the levels that were built. -/
structure EX (w0 : World) (b o b1 o1 c1 b2 o2 c2 : Nat) (w : World) : Prop where
  x0 : w.cell? ⟨b, o, none⟩ = some (.slice (some ⟨b1, o1, none⟩) 2 c1)
  x1 : w.cell? ⟨b, o + 1, none⟩ = some (.slice (some ⟨b2, o2, none⟩) 1 c2)
  y0 : w.cell? ⟨b1, o1 + 4, none⟩ = some (.int .i64 4)
  y1 : w.cell? ⟨b1, o1 + 5 + 3, none⟩ = some (.int .i64 4)
  y2 : w.cell? ⟨b1, o1 + 5, none⟩ = some (.int .u64 100)
  y3 : w.cell? ⟨b1, o1 + 5 + 4, none⟩ = some (.int .i64 7)
  z0 : w.cell? ⟨b2, o2 + 4, none⟩ = some (.int .i64 2)
  bel : Below w0.heap.size w0 w
theorem EX.below {w0 w w' : World} {b o b1 o1 c1 b2 o2 c2 : Nat} (h : EX w0 b o b1 o1 c1 b2 o2 c2 w) (k : Below w.heap.size w w') : EX w0 b o b1 o1 c1 b2 o2 c2 w' :=
  ⟨(k.cell (p := ⟨b, _, none⟩) (cell_lt h.x0)).trans h.x0, (k.cell (p := ⟨b, _, none⟩) (cell_lt h.x0)).trans h.x1, (k.cell (p := ⟨b1, _, none⟩) (cell_lt h.y0)).trans h.y0,
    (k.cell (p := ⟨b1, _, none⟩) (cell_lt h.y0)).trans h.y1, (k.cell (p := ⟨b1, _, none⟩) (cell_lt h.y0)).trans h.y2, (k.cell (p := ⟨b1, _, none⟩) (cell_lt h.y0)).trans h.y3, (k.cell (p := ⟨b2, _, none⟩) (cell_lt h.z0)).trans h.z0, below_next h.bel k⟩
end Go.Proofs.Ytnccgpdniigekaa
