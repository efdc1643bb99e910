/-
  The statement ModelRises holds: whatever the arguments, the law returns true, and what it was given reads as it did.
-/
import Derived.Test.YtakegkdmpcakdaaQG19
import Derived.Test.YtakegkdmpcakdaaQArr
import Derived.Test.YtakegkdmpcakdaaQMdL3
namespace Go.Proofs.Ytakegkdmpcakdaa.RowModelRises
open Go.ChangeShapes Go.WideShapes Go.ChangeAt Go.RowKit Go.Joins Go.Deep
set_option linter.unusedVariables false
set_option linter.unusedSimpArgs false
theorem own : ownKnob Try.prog.godebug = none := by kernel_rfl
theorem laid : laidOutB Try.prog = true := by kernel_rfl
theorem read0 : Try.prog.readableRec 24 = true := by kernel_rfl
theorem lt0 : 24 < Try.prog.types.size := of_decide_eq_true (by kernel_rfl)
theorem read1 : Try.prog.readableRec 33 = true := by kernel_rfl
theorem lt1 : 33 < Try.prog.types.size := of_decide_eq_true (by kernel_rfl)
set_option maxRecDepth 100000 in
theorem lifted (os : Os) (started : os.Started) (H : Type) (enc : TypeId × Value → H) :
    ReturnsInHanded {} Try.checked os 8 .any (Rows.modelRisesSpec.pre6 enc Try.prog Try.f8 Rows.modelRisesRow.domain false) (Rows.modelRisesSpec.post enc Try.prog Try.f8 false true false false) := by
  refine returnsInHanded_of_change_sized (C := Try.checked) own started (by kernel_rfl) Try.func8
    (ChangeSpec.witness6 (enc := enc) (C := Try.checked) false ⟨#[], #[.agg #[.int .u64 0, .int .u64 0, .int .u64 0, .int .i64 0, .int .i64 0], .slice none 0 0, .slice none 0 0], []⟩ 8 (by kernel_rfl) (by kernel_rfl) (by kernel_rfl) (by kernel_rfl)) ?_
  intro W base args ds gs before hval0 hW hcnd hsz0 _
  have hsz : (DataW.weightsEach Try.prog (Try.f8.params.toList ++ Rows.modelRisesSpec.plain.varTypes Try.prog) (ds ++ gs)).all (· ≤ reachBytes) = true := hsz0
  have hval : ∀ (j : Nat) t v, Try.f8.params[j]? = some t → args[j]? = some v → Value.okWide Try.prog W .any base t v := hval0
  have hW' := hW
  obtain ⟨p, q, hA0, hV, rfl, hfz, hnd⟩ := hW
  have hA : DataW.TrodAll enc Try.prog W 0 (fun _ => true) true Try.f8.params.toList args.toList ds p := hA0
  rw [Try.params8] at hA hval hsz
  have hA1 := hA
  obtain ⟨v0, vs0, d0, ds0, p0, q0, hargs, rfl, rfl, h0, r0⟩ := trodAll_cons hA
  obtain ⟨v1, vs1, d1, ds1, p1, q1, rfl, rfl, rfl, h1, r1⟩ := trodAll_cons r0
  obtain ⟨v2, vs2, d2, ds2, p2, q2, rfl, rfl, rfl, h2, r2⟩ := trodAll_cons r1
  obtain ⟨rfl, rfl, rfl⟩ := trodAll_nil r2
  obtain rfl : args = #[v0, v1, v2] := by cases args; simp_all
  obtain ⟨rfl, rfl⟩ := trodVars_none hV
  obtain ⟨c0_0, c0_1, c0_2, c0_3, c0_4, y0_0, y0_1, y0_2, y0_3, y0_4, m0, rfl, rfl, rfl, t0_0, t0_1, t0_2, t0_3, t0_4⟩ := open_agg5 Try.underlying24 (by kernel_rfl) (by kernel_rfl) (hval 0 24 v0 rfl rfl) h0
  obtain ⟨k0_0, e0_0, _, b0_0⟩ := DataW.trod_int Try.underlying22 t0_0
  obtain rfl : c0_0 = .int .u64 k0_0 := by simpa using e0_0
  obtain ⟨k0_1, e0_1, _, b0_1⟩ := DataW.trod_int Try.underlying22 t0_1
  obtain rfl : c0_1 = .int .u64 k0_1 := by simpa using e0_1
  obtain ⟨k0_2, e0_2, _, b0_2⟩ := DataW.trod_int Try.underlying22 t0_2
  obtain rfl : c0_2 = .int .u64 k0_2 := by simpa using e0_2
  obtain ⟨k0_3, e0_3, _, b0_3⟩ := DataW.trod_int Try.underlying3 t0_3
  obtain rfl : c0_3 = .int .i64 k0_3 := by simpa using e0_3
  obtain ⟨k0_4, e0_4, _, b0_4⟩ := DataW.trod_int Try.underlying3 t0_4
  obtain rfl : c0_4 = .int .i64 k0_4 := by simpa using e0_4
  obtain ⟨a1, len1, cap1, rfl⟩ := okWide_slice Try.underlying33 (hval 1 33 v1 rfl rfl)
  obtain ⟨fuel1, hf1⟩ := h1
  obtain ⟨A1, c1, L1, hcs1, hO1, hU1, hx1⟩ := open_u64s (cs := [.slice a1 len1 cap1]) hf1
  injection hcs1 with hcs1 _
  injection hcs1 with e1 e2 e3
  subst e1 e2 e3
  have hn1 : L1.length ≤ 17592186044416 := by
    rcases hx1 with ⟨_, hx1⟩ | ⟨elems, sp, hd, hl⟩
    · rw [hx1]; exact Nat.zero_le _
    · simp only [] at hd
      subst hd
      have h := sized_slice hsz (j := 1) (t := 33) rfl rfl Try.underlying33
      have hb : Try.prog.bytesOf 22 = 8 := by kernel_rfl
      rw [hb] at h
      unfold reachBytes at h
      omega
  obtain ⟨a2, len2, cap2, rfl⟩ := okWide_slice Try.underlying33 (hval 2 33 v2 rfl rfl)
  obtain ⟨fuel2, hf2⟩ := h2
  obtain ⟨A2, c2, L2, hcs2, hO2, hU2, hx2⟩ := open_u64s (cs := [.slice a2 len2 cap2]) hf2
  injection hcs2 with hcs2 _
  injection hcs2 with e1 e2 e3
  subst e1 e2 e3
  have hn2 : L2.length ≤ 17592186044416 := by
    rcases hx2 with ⟨_, hx2⟩ | ⟨elems, sp, hd, hl⟩
    · rw [hx2]; exact Nat.zero_le _
    · simp only [] at hd
      subst hd
      have h := sized_slice hsz (j := 2) (t := 33) rfl rfl Try.underlying33
      have hb : Try.prog.bytesOf 22 = 8 := by kernel_rfl
      rw [hb] at h
      unfold reachBytes at h
      omega
  clear hA0 hval0 hsz0 hsz
  refine (modelRises_walk ⟨k0_0, k0_1, k0_2, k0_3, k0_4⟩ ⟨wf_u64 b0_0, wf_u64 b0_1, wf_u64 b0_2, wf_i64 b0_3, wf_i64 b0_4⟩ a1 cap1 L1 hU1 hn1 a2 cap2 L2 hU2 hn2 W hO1 hO2).mono fun e W' ⟨he, bel⟩ => ?_
  subst he
  exact ⟨_, rfl, _, _, _, [], _, [], hW', trodAll_mk1 (shut_bool Try.underlying4 _), trodAll_carry laid bel (by intro t ht; simp at ht; rcases ht with rfl | rfl | rfl <;> first | exact ⟨read0, lt0⟩ | exact ⟨read1, lt1⟩) hA1, rfl, bel.frame _, fun h => by cases h⟩
theorem over : Rows.modelRisesRow.holds Try.pinned (OpenSpec.ofChange Rows.modelRisesSpec) :=
  OpenClaim.holds_of_wide 8 Try.f8 rfl rfl rfl rfl rfl rfl rfl ⟨rfl, rfl, rfl, rfl, rfl⟩ rfl rfl rfl rfl rfl (by kernel_rfl) Try.func8 (by kernel_rfl)
    (of_decide_eq_true (by kernel_rfl)) (by unfold Func.isWrapper; first | (rw [if_pos (by decide +kernel)]; kernel_rfl) | (rw [if_neg (by decide +kernel)]; exact ⟨rfl, rfl⟩))
    (fun os started H enc _ => lifted os started H enc)
theorem proved : Rows.ModelRisesSaid := over
#print axioms proved
end Go.Proofs.Ytakegkdmpcakdaa.RowModelRises
namespace Go.Proofs.Ytakegkdmpcakdaa
/-- The row, under a short name, for the claim. -/
theorem modelRises_holds : Rows.ModelRisesSaid := RowModelRises.proved
end Go.Proofs.Ytakegkdmpcakdaa
