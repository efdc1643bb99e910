/-
  The statement WideMore holds: whatever the arguments, the law returns true, and what it was given reads as it did.
-/
import Derived.Test.YtglhfknlemaidaaRows
import Derived.Test.YtglhfknlemaidaaWdLMore
import Derived.WalkKit
import Derived.ProofKit
import Derived.OpenShut
import Derived.ShutString
import Derived.ChangeOld
import Derived.Below
import Derived.SizedLaws
import Derived.Lib.SmallJoins
namespace Go.Proofs.Ytglhfknlemaidaa.wideMore
open Go.ChangeShapes Go.WideShapes Go.ChangeAt Go.RowKit Go.Joins
open Go.ChangeMaps (open_string shut_string)
set_option linter.unusedVariables false
set_option linter.unusedSimpArgs false
theorem i64ok_of {x : Int} (h : (Lit.int .i64 x).wf = true) : i64ok x := by
  simpa [Lit.wf, IntKind.min, IntKind.max, IntKind.signed, IntKind.bits, i64ok] using h
theorem u64ok_of {x : Int} (h : (Lit.int .u64 x).wf = true) : u64ok x := by
  simpa [Lit.wf, IntKind.min, IntKind.max, IntKind.signed, IntKind.bits, u64ok] using h
theorem own : ownKnob Try.prog.godebug = none := by kernel_rfl
set_option maxRecDepth 100000 in
theorem lifted (os : Os) (started : os.Started) (H : Type) (enc : TypeId × Value → H) :
    ReturnsInHanded {} Try.checked os 9 .any (Rows.wideMoreSpec.pre6 enc Try.prog Try.f9 Rows.wideMoreRow.domain false) (Rows.wideMoreSpec.post enc Try.prog Try.f9 false true false false) := by
  refine returnsInHanded_of_change_sized (C := Try.checked) own started (by kernel_rfl) Try.func9
    (ChangeSpec.witness6 (enc := enc) (C := Try.checked) false ⟨#[], #[.agg #[.int .i64 0, .int .u64 0], .int .i64 0, .int .u64 0], []⟩ 8 (by kernel_rfl) (by kernel_rfl) (by kernel_rfl) (by kernel_rfl)) ?_
  intro W base args ds gs before hval0 hW hcnd hsz0 _
  have hsz : (DataW.weightsEach Try.prog (Try.f9.params.toList ++ Rows.wideMoreSpec.plain.varTypes Try.prog) (ds ++ gs)).all (· ≤ reachBytes) = true := hsz0
  have hval : ∀ (j : Nat) t v, Try.f9.params[j]? = some t → args[j]? = some v → Value.okWide Try.prog W .any base t v := hval0
  have hW' := hW
  obtain ⟨p, q, hA0, hV, rfl, hfz, hnd⟩ := hW
  have hA : DataW.TrodAll enc Try.prog W 0 (fun _ => true) true Try.f9.params.toList args.toList ds p := hA0
  rw [Try.params9] at hA hval hsz
  obtain ⟨v0, vs0, d0, ds0, p0, q0, hargs, rfl, rfl, h0, r0⟩ := trodAll_cons hA
  obtain ⟨v1, vs1, d1, ds1, p1, q1, rfl, rfl, rfl, h1, r1⟩ := trodAll_cons r0
  obtain ⟨v2, vs2, d2, ds2, p2, q2, rfl, rfl, rfl, h2, r2⟩ := trodAll_cons r1
  obtain ⟨rfl, rfl, rfl⟩ := trodAll_nil r2
  obtain rfl : args = #[v0, v1, v2] := by cases args; simp_all
  obtain ⟨rfl, rfl⟩ := trodVars_none hV
  obtain ⟨u0, c0, y0, z0, n0, rfl, rfl, rfl, s0, t0⟩ := open_agg2 Try.underlying25 (by kernel_rfl) (by kernel_rfl) (hval 0 25 v0 rfl rfl) h0
  obtain ⟨hi0, eu0, rfl, wh0⟩ := DataW.trod_int Try.underlying2 s0
  obtain ⟨lo0, ec0, rfl, wl0⟩ := DataW.trod_int Try.underlying22 t0
  obtain rfl : u0 = .int .i64 hi0 := by simpa using eu0
  obtain rfl : c0 = .int .u64 lo0 := by simpa using ec0
  have x0v := I128.enc_val (i64ok_of wh0) (u64ok_of wl0)
  have x0o := I128.val_ok (i64ok_of wh0) (u64ok_of wl0)
  obtain ⟨a1, rfl, rfl, rfl, w1⟩ := open_int Try.underlying2 (hval 1 2 v1 rfl rfl) h1
  obtain ⟨a2, rfl, rfl, rfl, w2⟩ := open_int Try.underlying22 (hval 2 22 v2 rfl rfl) h2
  clear hA0 hval0 hsz0 hsz
  have walk := wideMore_walk x0o (i64ok_of w1) (u64ok_of w2) W
  rw [x0v] at walk
  refine walk.mono fun e W' ⟨he, bel⟩ => ?_
  subst he
  exact ⟨_, rfl, _, _, _, [], _, [], hW', trodAll_mk1 (shut_bool Try.underlying4 _), (trodAll_cons_mk (shut_agg2 (y0 := (.lit (.int .i64 hi0), [])) (y1 := (.lit (.int .u64 lo0), [])) Try.underlying25 (by kernel_rfl) (by kernel_rfl) ⟨1, by simp [DataW.trod, show Try.checked.prog = Try.prog from rfl, Try.underlying2, wh0]⟩ ⟨1, by simp [DataW.trod, show Try.checked.prog = Try.prog from rfl, Try.underlying22, wl0]⟩) (trodAll_cons_mk (shut_int Try.underlying2 w1) (trodAll_cons_mk (shut_int Try.underlying22 w2) trodAll_mk0))), rfl, bel.frame _, fun h => by cases h⟩
theorem over : Rows.wideMoreRow.holds Try.pinned (OpenSpec.ofChange Rows.wideMoreSpec) :=
  OpenClaim.holds_of_wide 9 Try.f9 rfl rfl rfl rfl rfl rfl rfl ⟨rfl, rfl, rfl, rfl, rfl⟩ rfl rfl rfl rfl rfl (by kernel_rfl) Try.func9 (by kernel_rfl)
    (of_decide_eq_true (by kernel_rfl)) (by unfold Func.isWrapper; first | (rw [if_pos (by decide +kernel)]; kernel_rfl) | (rw [if_neg (by decide +kernel)]; exact ⟨rfl, rfl⟩))
    (fun os started H enc _ => lifted os started H enc)
theorem proved : Rows.WideMoreSaid := over
#print axioms proved
end Go.Proofs.Ytglhfknlemaidaa.wideMore
namespace Go.Proofs.Ytglhfknlemaidaa
/-- The row, under a short name, for the claim. -/
theorem wideMore_holds : Rows.WideMoreSaid := wideMore.proved
end Go.Proofs.Ytglhfknlemaidaa
