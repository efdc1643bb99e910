/-
  The statement LevelsBuild holds: whatever the arguments, the law returns true, and what it was given reads as it did.
-/
import Derived.Test.YtnccgpdniigekaaQG19
import Derived.Test.YtnccgpdniigekaaQG29
import Derived.Test.YtnccgpdniigekaaQLvL8
namespace Go.Proofs.Ytnccgpdniigekaa.RowLevelsBuild
open Go.ChangeShapes Go.WideShapes Go.ChangeAt Go.RowKit Go.Joins Go.Deep
set_option linter.unusedVariables false
set_option linter.unusedSimpArgs false
theorem own : ownKnob Try.prog.godebug = none := by kernel_rfl
theorem laid : laidOutB Try.prog = true := by kernel_rfl
theorem read0 : Try.prog.readableRec 22 = true := by kernel_rfl
theorem lt0 : 22 < Try.prog.types.size := of_decide_eq_true (by kernel_rfl)
theorem read1 : Try.prog.readableRec 3 = true := by kernel_rfl
theorem lt1 : 3 < Try.prog.types.size := of_decide_eq_true (by kernel_rfl)
set_option maxRecDepth 100000 in
theorem lifted (os : Os) (started : os.Started) (H : Type) (enc : TypeId × Value → H) :
    ReturnsInHanded {} Try.checked os 3 .any (Rows.levelsBuildSpec.pre6 enc Try.prog Try.f3 Rows.levelsBuildRow.domain false) (Rows.levelsBuildSpec.post enc Try.prog Try.f3 false true false false) := by
  refine returnsInHanded_of_change_sized (C := Try.checked) own started (by kernel_rfl) Try.func3
    (ChangeSpec.witness6 (enc := enc) (C := Try.checked) false ⟨#[], #[.slice none 0 0, .int .i64 0], []⟩ 8 (by kernel_rfl) (by kernel_rfl) (by kernel_rfl) (by kernel_rfl)) ?_
  intro W base args ds gs before hval0 hW hcnd hsz0 _
  have hsz : (DataW.weightsEach Try.prog (Try.f3.params.toList ++ Rows.levelsBuildSpec.plain.varTypes Try.prog) (ds ++ gs)).all (· ≤ reachBytes) = true := hsz0
  have hval : ∀ (j : Nat) t v, Try.f3.params[j]? = some t → args[j]? = some v → Value.okWide Try.prog W .any base t v := hval0
  have hW' := hW
  obtain ⟨p, q, hA0, hV, rfl, hfz, hnd⟩ := hW
  have hA : DataW.TrodAll enc Try.prog W 0 (fun _ => true) true Try.f3.params.toList args.toList ds p := hA0
  rw [Try.params3] at hA hval hsz
  have hA1 := hA
  obtain ⟨v0, vs0, d0, ds0, p0, q0, hargs, rfl, rfl, h0, r0⟩ := trodAll_cons hA
  obtain ⟨v1, vs1, d1, ds1, p1, q1, rfl, rfl, rfl, h1, r1⟩ := trodAll_cons r0
  obtain ⟨rfl, rfl, rfl⟩ := trodAll_nil r1
  obtain rfl : args = #[v0, v1] := by cases args; simp_all
  obtain ⟨rfl, rfl⟩ := trodVars_none hV
  obtain ⟨a1, rfl, rfl, rfl, w1⟩ := open_int Try.underlying3 (hval 1 3 v1 rfl rfl) h1
  obtain ⟨a0, len0, cap0, rfl⟩ := okWide_slice Try.underlying22 (hval 0 22 v0 rfl rfl)
  obtain ⟨fuel0, hf0⟩ := h0
  obtain ⟨A0, c0, L0, hcs0, hC0, hO0, hU0, hx0⟩ := open_u64sc (cs := [.slice a0 len0 cap0]) hf0
  injection hcs0 with hcs0 _
  injection hcs0 with e1 e2 e3
  subst e1 e2 e3
  have hn0 : L0.length ≤ 17592186044416 := by
    rcases hx0 with ⟨_, hx0⟩ | ⟨elems, sp, hd, hl⟩
    · rw [hx0]; exact Nat.zero_le _
    · simp only [] at hd
      subst hd
      have h := sized_slice hsz (j := 0) (t := 22) rfl rfl Try.underlying22
      have hb : Try.prog.bytesOf 24 = 8 := by kernel_rfl
      rw [hb] at h
      unfold reachBytes at h
      omega
  clear hA0 hval0 hsz0 hsz
  refine (lvBuild_walk a0 cap0 L0 hU0 hn0 hC0 a1 W hO0).mono fun e W' ⟨he, bel⟩ => ?_
  subst he
  exact ⟨_, rfl, _, _, _, [], _, [], hW', trodAll_mk1 (shut_bool Try.underlying4 _), trodAll_carry laid bel (by intro t ht; simp at ht; rcases ht with rfl | rfl <;> first | exact ⟨read0, lt0⟩ | exact ⟨read1, lt1⟩) hA1, rfl, bel.frame _, fun h => by cases h⟩
theorem over : Rows.levelsBuildRow.holds Try.pinned (OpenSpec.ofChange Rows.levelsBuildSpec) :=
  OpenClaim.holds_of_wide 3 Try.f3 rfl rfl rfl rfl rfl rfl rfl ⟨rfl, rfl, rfl, rfl, rfl⟩ rfl rfl rfl rfl rfl (by kernel_rfl) Try.func3 (by kernel_rfl)
    (of_decide_eq_true (by kernel_rfl)) (by unfold Func.isWrapper; first | (rw [if_pos (by decide +kernel)]; kernel_rfl) | (rw [if_neg (by decide +kernel)]; exact ⟨rfl, rfl⟩))
    (fun os started H enc _ => lifted os started H enc)
theorem proved : Rows.LevelsBuildSaid := over
#print axioms proved
end Go.Proofs.Ytnccgpdniigekaa.RowLevelsBuild
namespace Go.Proofs.Ytnccgpdniigekaa
/-- The row, under a short name, for the claim. -/
theorem levelsBuild_holds : Rows.LevelsBuildSaid := RowLevelsBuild.proved
end Go.Proofs.Ytnccgpdniigekaa
