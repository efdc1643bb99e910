/-
  The statement WideOrder holds: whatever the arguments, the law returns true, and what it was given reads as it did.
-/
import Derived.Test.YtglhfknlemaidaaRows
import Derived.Test.YtglhfknlemaidaaWdLOrder
import Derived.WalkKit
import Derived.ProofKit
import Derived.OpenShut
import Derived.ShutString
import Derived.ChangeOld
import Derived.Below
import Derived.SizedLaws
import Derived.Lib.SmallJoins
namespace Go.Proofs.Ytglhfknlemaidaa.wideOrder
open Go.ChangeShapes Go.WideShapes Go.ChangeAt Go.RowKit Go.Joins
open Go.ChangeMaps (open_string shut_string)
set_option linter.unusedVariables false
set_option linter.unusedSimpArgs false
theorem i64ok_of {x : Int} (h : (Lit.int .i64 x).wf = true) : i64ok x := by
  simpa [Lit.wf, IntKind.min, IntKind.max, IntKind.signed, IntKind.bits, i64ok] using h
theorem u64ok_of {x : Int} (h : (Lit.int .u64 x).wf = true) : u64ok x := by
  simpa [Lit.wf, IntKind.min, IntKind.max, IntKind.signed, IntKind.bits, u64ok] using h
theorem own : ownKnob Try.prog.godebug = none := by kernel_rfl
set_option maxRecDepth 100000 in
theorem lifted (os : Os) (started : os.Started) (H : Type) (enc : TypeId × Value → H) :
    ReturnsInHanded {} Try.checked os 8 .any (Rows.wideOrderSpec.pre6 enc Try.prog Try.f8 Rows.wideOrderRow.domain false) (Rows.wideOrderSpec.post enc Try.prog Try.f8 false true false false) := by
  refine returnsInHanded_of_change_sized (C := Try.checked) own started (by kernel_rfl) Try.func8
    (ChangeSpec.witness6 (enc := enc) (C := Try.checked) false ⟨#[], #[.agg #[.int .i64 0, .int .u64 0], .agg #[.int .i64 0, .int .u64 0], .agg #[.int .i64 0, .int .u64 0]], []⟩ 8 (by kernel_rfl) (by kernel_rfl) (by kernel_rfl) (by kernel_rfl)) ?_
  intro W base args ds gs before hval0 hW hcnd hsz0 _
  have hsz : (DataW.weightsEach Try.prog (Try.f8.params.toList ++ Rows.wideOrderSpec.plain.varTypes Try.prog) (ds ++ gs)).all (· ≤ reachBytes) = true := hsz0
  have hval : ∀ (j : Nat) t v, Try.f8.params[j]? = some t → args[j]? = some v → Value.okWide Try.prog W .any base t v := hval0
  have hW' := hW
  obtain ⟨p, q, hA0, hV, rfl, hfz, hnd⟩ := hW
  have hA : DataW.TrodAll enc Try.prog W 0 (fun _ => true) true Try.f8.params.toList args.toList ds p := hA0
  rw [Try.params8] at hA hval hsz
  obtain ⟨v0, vs0, d0, ds0, p0, q0, hargs, rfl, rfl, h0, r0⟩ := trodAll_cons hA
  obtain ⟨v1, vs1, d1, ds1, p1, q1, rfl, rfl, rfl, h1, r1⟩ := trodAll_cons r0
  obtain ⟨v2, vs2, d2, ds2, p2, q2, rfl, rfl, rfl, h2, r2⟩ := trodAll_cons r1
  obtain ⟨rfl, rfl, rfl⟩ := trodAll_nil r2
  obtain rfl : args = #[v0, v1, v2] := by cases args; simp_all
  obtain ⟨rfl, rfl⟩ := trodVars_none hV
  obtain ⟨u0, c0, y0, z0, n0, rfl, rfl, rfl, s0, t0⟩ := open_agg2 Try.underlying25 (by kernel_rfl) (by kernel_rfl) (hval 0 25 v0 rfl rfl) h0
  obtain ⟨hi0, eu0, rfl, wh0⟩ := DataW.trod_int Try.underlying2 s0
  obtain ⟨lo0, ec0, rfl, wl0⟩ := DataW.trod_int Try.underlying22 t0
  obtain rfl : u0 = .int .i64 hi0 := by simpa using eu0
  obtain rfl : c0 = .int .u64 lo0 := by simpa using ec0
  have x0v := I128.enc_val (i64ok_of wh0) (u64ok_of wl0)
  have x0o := I128.val_ok (i64ok_of wh0) (u64ok_of wl0)
  obtain ⟨u1, c1, y1, z1, n1, rfl, rfl, rfl, s1, t1⟩ := open_agg2 Try.underlying25 (by kernel_rfl) (by kernel_rfl) (hval 1 25 v1 rfl rfl) h1
  obtain ⟨hi1, eu1, rfl, wh1⟩ := DataW.trod_int Try.underlying2 s1
  obtain ⟨lo1, ec1, rfl, wl1⟩ := DataW.trod_int Try.underlying22 t1
  obtain rfl : u1 = .int .i64 hi1 := by simpa using eu1
  obtain rfl : c1 = .int .u64 lo1 := by simpa using ec1
  have x1v := I128.enc_val (i64ok_of wh1) (u64ok_of wl1)
  have x1o := I128.val_ok (i64ok_of wh1) (u64ok_of wl1)
  obtain ⟨u2, c2, y2, z2, n2, rfl, rfl, rfl, s2, t2⟩ := open_agg2 Try.underlying25 (by kernel_rfl) (by kernel_rfl) (hval 2 25 v2 rfl rfl) h2
  obtain ⟨hi2, eu2, rfl, wh2⟩ := DataW.trod_int Try.underlying2 s2
  obtain ⟨lo2, ec2, rfl, wl2⟩ := DataW.trod_int Try.underlying22 t2
  obtain rfl : u2 = .int .i64 hi2 := by simpa using eu2
  obtain rfl : c2 = .int .u64 lo2 := by simpa using ec2
  have x2v := I128.enc_val (i64ok_of wh2) (u64ok_of wl2)
  have x2o := I128.val_ok (i64ok_of wh2) (u64ok_of wl2)
  clear hA0 hval0 hsz0 hsz
  have walk := wideOrder_walk x0o x1o x2o W
  rw [x0v] at walk
  rw [x1v] at walk
  rw [x2v] at walk
  refine walk.mono fun e W' ⟨he, bel⟩ => ?_
  subst he
  exact ⟨_, rfl, _, _, _, [], _, [], hW', trodAll_mk1 (shut_bool Try.underlying4 _), (trodAll_cons_mk (shut_agg2 (y0 := (.lit (.int .i64 hi0), [])) (y1 := (.lit (.int .u64 lo0), [])) Try.underlying25 (by kernel_rfl) (by kernel_rfl) ⟨1, by simp [DataW.trod, show Try.checked.prog = Try.prog from rfl, Try.underlying2, wh0]⟩ ⟨1, by simp [DataW.trod, show Try.checked.prog = Try.prog from rfl, Try.underlying22, wl0]⟩) (trodAll_cons_mk (shut_agg2 (y0 := (.lit (.int .i64 hi1), [])) (y1 := (.lit (.int .u64 lo1), [])) Try.underlying25 (by kernel_rfl) (by kernel_rfl) ⟨1, by simp [DataW.trod, show Try.checked.prog = Try.prog from rfl, Try.underlying2, wh1]⟩ ⟨1, by simp [DataW.trod, show Try.checked.prog = Try.prog from rfl, Try.underlying22, wl1]⟩) (trodAll_cons_mk (shut_agg2 (y0 := (.lit (.int .i64 hi2), [])) (y1 := (.lit (.int .u64 lo2), [])) Try.underlying25 (by kernel_rfl) (by kernel_rfl) ⟨1, by simp [DataW.trod, show Try.checked.prog = Try.prog from rfl, Try.underlying2, wh2]⟩ ⟨1, by simp [DataW.trod, show Try.checked.prog = Try.prog from rfl, Try.underlying22, wl2]⟩) trodAll_mk0))), rfl, bel.frame _, fun h => by cases h⟩
theorem over : Rows.wideOrderRow.holds Try.pinned (OpenSpec.ofChange Rows.wideOrderSpec) :=
  OpenClaim.holds_of_wide 8 Try.f8 rfl rfl rfl rfl rfl rfl rfl ⟨rfl, rfl, rfl, rfl, rfl⟩ rfl rfl rfl rfl rfl (by kernel_rfl) Try.func8 (by kernel_rfl)
    (of_decide_eq_true (by kernel_rfl)) (by unfold Func.isWrapper; first | (rw [if_pos (by decide +kernel)]; kernel_rfl) | (rw [if_neg (by decide +kernel)]; exact ⟨rfl, rfl⟩))
    (fun os started H enc _ => lifted os started H enc)
theorem proved : Rows.WideOrderSaid := over
#print axioms proved
end Go.Proofs.Ytglhfknlemaidaa.wideOrder
namespace Go.Proofs.Ytglhfknlemaidaa
/-- The row, under a short name, for the claim. -/
theorem wideOrder_holds : Rows.WideOrderSaid := wideOrder.proved
end Go.Proofs.Ytglhfknlemaidaa
