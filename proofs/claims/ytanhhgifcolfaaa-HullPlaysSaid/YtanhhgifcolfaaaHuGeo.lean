/-
  Plain geometry of a chain of points: which point a later one is steepest from; points that are dropped are no loss. No program.
-/
namespace Go.Proofs.Ytanhhgifcolfaaa
set_option linter.unusedVariables false
set_option linter.unusedSimpArgs false

/-- A point. -/
abbrev Pt := Int × Int
/-- How the way from a to q stands to the way from a to r. -/
def turnV (a q r : Pt) : Int := (q.2 - a.2) * (r.1 - a.1) - (r.2 - a.2) * (q.1 - a.1)
/-- How the way from a to p stands to the way from q to p. -/
def steepV (a q p : Pt) : Int := (p.2 - a.2) * (p.1 - q.1) - (p.2 - q.2) * (p.1 - a.1)

/-- A point between two others, on their far side: the way from it to a later point is no better than from one of them. -/
theorem drop_ok {b : Int} {a q r p : Pt} (h1 : a.1 < q.1) (h2 : q.1 < r.1) (h3 : r.1 < p.1) (h : 0 ≤ b * turnV a q r) : b * steepV q a p ≤ 0 ∨ b * steepV q r p ≤ 0 := by
  by_cases c1 : b * steepV q a p ≤ 0
  · exact .inl c1
  by_cases c2 : b * steepV q r p ≤ 0
  · exact .inr c2
  exfalso
  obtain ⟨ax, ay⟩ := a; obtain ⟨qx, qy⟩ := q; obtain ⟨rx, ry⟩ := r; obtain ⟨px, py⟩ := p
  simp only [turnV, steepV] at *
  have k1 : 0 < (b * ((py - qy) * (px - ax) - (py - ay) * (px - qx))) * (rx - qx) := Int.mul_pos (by omega) (by omega)
  have k2 : 0 < (b * ((py - qy) * (px - rx) - (py - ry) * (px - qx))) * (qx - ax) := Int.mul_pos (by omega) (by omega)
  have k3 : 0 ≤ (b * ((qy - ay) * (rx - ax) - (ry - ay) * (qx - ax))) * (px - qx) := Int.mul_nonneg h (by omega)
  grind
/-- On a chain that bends, where the way has begun to be worse it goes on to be. -/
theorem bend_ok {b : Int} {a q r p : Pt} (h1 : a.1 < q.1) (h2 : q.1 < r.1) (h3 : r.1 < p.1) (h : b * turnV a q r < 0) (hs : 0 ≤ b * steepV a q p) : 0 ≤ b * steepV q r p := by
  refine Int.not_lt.1 fun c => ?_
  obtain ⟨ax, ay⟩ := a; obtain ⟨qx, qy⟩ := q; obtain ⟨rx, ry⟩ := r; obtain ⟨px, py⟩ := p
  simp only [turnV, steepV] at *
  have k1 : 0 ≤ (b * ((py - ay) * (px - qx) - (py - qy) * (px - ax))) * (rx - qx) := Int.mul_nonneg hs (by omega)
  have k2 : 0 < (-(b * ((py - qy) * (px - rx) - (py - ry) * (px - qx)))) * (qx - ax) := Int.mul_pos (by omega) (by omega)
  have k3 : 0 < (-(b * ((qy - ay) * (rx - ax) - (ry - ay) * (qx - ax)))) * (px - qx) := Int.mul_pos (by omega) (by omega)
  grind
theorem steep_anti (a q p : Pt) : steepV a q p = -steepV q a p := by unfold steepV; grind
/-- Ways to one point are ordered. -/
theorem steep_trans {b : Int} {u v w p : Pt} (hu : u.1 < p.1) (hv : v.1 < p.1) (hw : w.1 < p.1) (h1 : b * steepV u v p ≤ 0) (h2 : b * steepV v w p ≤ 0) : b * steepV u w p ≤ 0 := by
  refine Int.not_lt.1 fun c => ?_
  obtain ⟨ux, uy⟩ := u; obtain ⟨vx, vy⟩ := v; obtain ⟨wx, wy⟩ := w; obtain ⟨px, py⟩ := p
  simp only [steepV] at *
  have k1 : 0 ≤ (-(b * ((py - uy) * (px - vx) - (py - vy) * (px - ux)))) * (px - wx) := Int.mul_nonneg (by omega) (by omega)
  have k2 : 0 ≤ (-(b * ((py - vy) * (px - wx) - (py - wy) * (px - vx)))) * (px - ux) := Int.mul_nonneg (by omega) (by omega)
  have k3 : 0 < (b * ((py - uy) * (px - wx) - (py - wy) * (px - ux))) * (px - vx) := Int.mul_pos c (by omega)
  grind
end Go.Proofs.Ytanhhgifcolfaaa
