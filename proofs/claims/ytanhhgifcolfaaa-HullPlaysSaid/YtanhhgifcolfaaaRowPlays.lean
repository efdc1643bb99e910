/-
  The statement HullPlays holds: whatever the arguments, the law returns true, and what it was given reads as it did.
-/
import Derived.Test.YtanhhgifcolfaaaRowW
import Derived.Test.YtanhhgifcolfaaaHuOpen
import Derived.Test.YtanhhgifcolfaaaHuPlays
namespace Go.Proofs.Ytanhhgifcolfaaa.RowHullPlays
open Go.ChangeShapes Go.WideShapes Go.ChangeAt Go.RowKit Go.Joins Go.Deep
set_option linter.unusedVariables false
set_option linter.unusedSimpArgs false
theorem own : ownKnob Try.prog.godebug = none := by kernel_rfl
theorem laid : laidOutB Try.prog = true := by kernel_rfl
theorem read41 : Try.prog.readableRec 44 = true := by kernel_rfl
theorem lt41 : 44 < Try.prog.types.size := of_decide_eq_true (by kernel_rfl)
theorem read3 : Try.prog.readableRec 3 = true := by kernel_rfl
theorem lt3 : 3 < Try.prog.types.size := of_decide_eq_true (by kernel_rfl)
theorem open_steps {H : Type} {enc : TypeId × Value → H} {w : World} {base : Nat} {spare : Nat → Bool} {held : Bool} {fuel : Nat} {cs : List Value} {x : DataW H × List MemPlace} (h : DataW.trod enc Try.prog w base spare held fuel 44 cs = some x) :
    ∃ (A : Option Addr) (n c : Nat) (T : Nat → Int × Int × Int × Int), cs = [.slice A n c] ∧ ArgS w A n T ∧ ((x.1 = .nil ∧ n = 0) ∨ ∃ elems sp, x.1 = .slice elems sp ∧ elems.length = n) := by
  rcases open_structs Try.underlying44 Try.underlying47 (by kernel_rfl) (by kernel_rfl) h with ⟨rfl, rfl⟩ | ⟨a, len, cap, m, D, pl, rfl, hl, hm, hlm, rfl, hf⟩
  · exact ⟨none, 0, 0, fun _ => (0, 0, 0, 0), rfl, fun h => absurd h (by omega), .inl ⟨rfl, rfl⟩⟩
  · have key : ∀ i, i < len → ∃ e : Int × Int × Int × Int, (-9223372036854775808 ≤ e.2.1 ∧ e.2.1 ≤ 9223372036854775807) ∧ (-9223372036854775808 ≤ e.2.2.1 ∧ e.2.2.1 ≤ 9223372036854775807) ∧ u64ok e.2.2.2 ∧
        w.cell? (a.add (i * 4)) = some (.int .i64 e.1) ∧ w.cell? (a.add (i * 4 + 1)) = some (.int .i64 e.2.1) ∧ w.cell? (a.add (i * 4 + 2)) = some (.int .i64 e.2.2.1) ∧ w.cell? (a.add (i * 4 + 3)) = some (.int .u64 e.2.2.2) := by
      intro i hi
      obtain ⟨v0, y0, n0, c0, t0⟩ := hf i (by omega) 0 _ rfl
      obtain ⟨v1, y1, n1, c1, t1⟩ := hf i (by omega) 1 _ rfl
      obtain ⟨v2, y2, n2, c2, t2⟩ := hf i (by omega) 2 _ rfl
      obtain ⟨v3, y3, n3, c3, t3⟩ := hf i (by omega) 3 _ rfl
      obtain ⟨k0, e0, _, b0⟩ := DataW.trod_int Try.underlying3 t0
      obtain ⟨k1, e1, _, b1⟩ := DataW.trod_int Try.underlying3 t1
      obtain ⟨k2, e2, _, b2⟩ := DataW.trod_int Try.underlying3 t2
      obtain ⟨k3, e3, _, b3⟩ := DataW.trod_int Try.underlying34 t3
      simp only [List.cons.injEq, and_true] at e0 e1 e2 e3
      subst e0 e1 e2 e3
      exact ⟨(k0, k1, k2, k3), by simpa [Lit.wf, IntKind.min, IntKind.max, IntKind.signed, IntKind.bits] using b1, by simpa [Lit.wf, IntKind.min, IntKind.max, IntKind.signed, IntKind.bits] using b2, wf_u64 b3, c0, c1, c2, c3⟩
    obtain ⟨E, hE⟩ := choose_lt key
    refine ⟨some a, len, cap, E, rfl, fun hn => ?_, .inr ⟨_, _, rfl, by simp⟩⟩
    have h0 := (hE 0 hn).2.2.2.1
    obtain ⟨b, o, r⟩ := a
    have hr : r = none := by simpa [Addr.add] using World.cell?_spot h0
    subst hr
    refine ⟨b, o, rfl, World.block_lt_of_cell? w _ (by rw [Addr.add_mid] at h0; exact h0), fun i hi => ?_⟩
    obtain ⟨q0, q1, q2, c0, c1, c2, c3⟩ := hE i hi
    rw [Addr.add_mid] at c0 c1 c2 c3
    exact ⟨q0, q1, q2, c0, c1, c2, c3⟩
set_option maxRecDepth 100000 in
theorem lifted (os : Os) (started : os.Started) (H : Type) (enc : TypeId × Value → H) :
    ReturnsInHanded {} Try.checked os 8 .any (Rows.hullPlaysSpec.pre6 enc Try.prog Try.f8 Rows.hullPlaysRow.domain false) (Rows.hullPlaysSpec.post enc Try.prog Try.f8 false true false false) := by
  refine returnsInHanded_of_change_sized (C := Try.checked) own started (by kernel_rfl) Try.func8
    (ChangeSpec.witness6 (enc := enc) (C := Try.checked) false ⟨#[], #[.int .i64 0, .slice none 0 0], []⟩ 8 (by kernel_rfl) (by kernel_rfl) (by kernel_rfl) (by kernel_rfl)) ?_
  intro W base args ds gs before hval0 hW hcnd hsz0 _
  have hsz : (DataW.weightsEach Try.prog (Try.f8.params.toList ++ Rows.hullPlaysSpec.plain.varTypes Try.prog) (ds ++ gs)).all (· ≤ reachBytes) = true := hsz0
  have hval : ∀ (j : Nat) t v, Try.f8.params[j]? = some t → args[j]? = some v → Value.okWide Try.prog W .any base t v := hval0
  have hW' := hW
  obtain ⟨p, q, hA0, hV, rfl, hfz, hnd⟩ := hW
  have hA : DataW.TrodAll enc Try.prog W 0 (fun _ => true) true Try.f8.params.toList args.toList ds p := hA0
  rw [Try.params8] at hA hval hsz
  have hA1 := hA
  obtain ⟨v0, vs0, d0, ds0, p0, q0, hargs, rfl, rfl, h0, r0⟩ := trodAll_cons hA
  obtain ⟨v1, vs1, d1, ds1, p1, q1, rfl, rfl, rfl, h1, r1⟩ := trodAll_cons r0
  obtain ⟨rfl, rfl, rfl⟩ := trodAll_nil r1
  obtain rfl : args = #[v0, v1] := by cases args; simp_all
  obtain ⟨rfl, rfl⟩ := trodVars_none hV
  obtain ⟨a0, rfl, rfl, rfl, w0⟩ := open_int Try.underlying3 (hval 0 3 v0 rfl rfl) h0
  obtain ⟨a1, len1, cap1, rfl⟩ := okWide_slice Try.underlying44 (hval 1 44 v1 rfl rfl)
  obtain ⟨fuel, hf⟩ := h1
  obtain ⟨A, n, c, T, hcs, hO, hx⟩ := open_steps (cs := [.slice a1 len1 cap1]) hf
  injection hcs with hcs _
  injection hcs with e1 e2 e3
  subst e1 e2 e3
  have hn : len1 ≤ 17592186044416 := by
    rcases hx with ⟨_, rfl⟩ | ⟨elems, sp, hd, hl⟩
    · omega
    · simp only [] at hd
      subst hd
      have h := sized_slice hsz (j := 1) (t := 44) rfl rfl Try.underlying44
      have hb : Try.prog.bytesOf 47 = 32 := by kernel_rfl
      rw [hb] at h
      unfold reachBytes at h
      omega
  clear hA0 hval0 hsz0 hsz
  refine (plays_walk a0 a1 cap1 len1 T hn W hO).mono fun e W' ⟨he, bel⟩ => ?_
  subst he
  exact ⟨_, rfl, _, _, _, [], _, [], hW', trodAll_mk1 (shut_bool Try.underlying4 _), trodAll_carry laid bel (by intro t ht; simp at ht; rcases ht with rfl | rfl; exact ⟨read3, lt3⟩; exact ⟨read41, lt41⟩) hA1, rfl, bel.frame _, fun h => by cases h⟩
theorem over : Rows.hullPlaysRow.holds Try.pinned (OpenSpec.ofChange Rows.hullPlaysSpec) :=
  OpenClaim.holds_of_wide 8 Try.f8 rfl rfl rfl rfl rfl rfl rfl ⟨rfl, rfl, rfl, rfl, rfl⟩ rfl rfl rfl rfl rfl (by kernel_rfl) Try.func8 (by kernel_rfl)
    (of_decide_eq_true (by kernel_rfl)) (by unfold Func.isWrapper; first | (rw [if_pos (by decide +kernel)]; kernel_rfl) | (rw [if_neg (by decide +kernel)]; exact ⟨rfl, rfl⟩))
    (fun os started H enc _ => lifted os started H enc)
theorem proved : Rows.HullPlaysSaid := over
#print axioms proved
end Go.Proofs.Ytanhhgifcolfaaa.RowHullPlays
namespace Go.Proofs.Ytanhhgifcolfaaa
/-- The row, under a short name, for the claim. -/
theorem hullPlays_holds : Rows.HullPlaysSaid := RowHullPlays.proved
end Go.Proofs.Ytanhhgifcolfaaa
