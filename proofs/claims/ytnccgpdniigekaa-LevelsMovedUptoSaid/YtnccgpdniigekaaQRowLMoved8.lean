/-
  The statement LevelsMoved holds where what it reads is of bulk at most 1048576: whatever the arguments, the law returns true, and what it was given reads as it did.
-/
import Derived.Test.YtnccgpdniigekaaQG19
import Derived.Test.YtnccgpdniigekaaQG29
import Derived.Test.YtnccgpdniigekaaQLvL7
namespace Go.Proofs.Ytnccgpdniigekaa.RowLevelsMoved
open Go.ChangeShapes Go.WideShapes Go.ChangeAt Go.RowKit Go.Joins Go.Deep
set_option linter.unusedVariables false
set_option linter.unusedSimpArgs false
theorem own : ownKnob Try.prog.godebug = none := by kernel_rfl
theorem laid : laidOutB Try.prog = true := by kernel_rfl
theorem read0 : Try.prog.readableRec 22 = true := by kernel_rfl
theorem lt0 : 22 < Try.prog.types.size := of_decide_eq_true (by kernel_rfl)
theorem read1 : Try.prog.readableRec 3 = true := by kernel_rfl
theorem lt1 : 3 < Try.prog.types.size := of_decide_eq_true (by kernel_rfl)
theorem read2 : Try.prog.readableRec 24 = true := by kernel_rfl
theorem lt2 : 24 < Try.prog.types.size := of_decide_eq_true (by kernel_rfl)
theorem one_le {H : Type} (d : DataW H) : 1 ≤ Rows.uptoBulk d := by
  cases d with
  | lit l => cases l <;> simp [Rows.uptoBulk]
  | _ => simp [Rows.uptoBulk]
theorem length_le {H : Type} : ∀ l : List (DataW H), l.length ≤ Rows.uptoBulkAll l
  | [] => Nat.zero_le _
  | x :: r => by have := one_le x; have := length_le r; simp only [Rows.uptoBulkAll, List.length_cons]; omega
set_option maxRecDepth 100000 in
theorem lifted (os : Os) (started : os.Started) (H : Type) (enc : TypeId × Value → H) (F : Stop.Interp) :
    ReturnsInHanded {} Try.checked os 11 .any ((Rows.OpenSpec.upto Rows.levelsMovedSpec).pre6 enc Try.prog Try.f11 Rows.levelsMovedUptoRow.domain false) (((Rows.OpenSpec.upto Rows.levelsMovedSpec).at F).post enc Try.prog Try.f11 false true false false) := by
  refine returnsInHanded_of_cond (C := Try.checked) (s := Rows.OpenSpec.upto Rows.levelsMovedSpec) (k := Rows.uptoSmall) rfl own started (by kernel_rfl) Try.func11
    (OpenSpec.witness (enc := enc) (C := Try.checked) (s := Rows.OpenSpec.upto Rows.levelsMovedSpec) (k := Rows.uptoSmall) rfl false ⟨#[], #[.slice none 0 0, .int .i64 0, .int .u64 0], []⟩ 8 (by kernel_rfl) (by kernel_rfl) (by kernel_rfl)
      (x := ([.nil, .lit (.int .i64 0), .lit (.int .u64 0)], [], [])) (by kernel_rfl) rfl (by kernel_rfl)) ?_
  intro W base args ds gs before hval hW _ hk _
  have hW' := hW
  obtain ⟨p, q, hA0, hV, rfl, hfz, hnd⟩ := hW
  have hA : DataW.TrodAll enc Try.prog W 0 (fun _ => true) true Try.f11.params.toList args.toList ds p := hA0
  rw [Try.params11] at hA hval
  have hA1 := hA
  obtain ⟨v0, vs0, d0, ds0, p0, q0, hargs, rfl, rfl, h0, r0⟩ := trodAll_cons hA
  obtain ⟨v1, vs1, d1, ds1, p1, q1, rfl, rfl, rfl, h1, r1⟩ := trodAll_cons r0
  obtain ⟨v2, vs2, d2, ds2, p2, q2, rfl, rfl, rfl, h2, r2⟩ := trodAll_cons r1
  obtain ⟨rfl, rfl, rfl⟩ := trodAll_nil r2
  obtain rfl : args = #[v0, v1, v2] := by cases args; simp_all
  obtain ⟨rfl, rfl⟩ := trodVars_none hV
  have hk' : Rows.uptoBulkAll ([d0, d1, d2] ++ [] : List (DataW H)) ≤ 1048576 := of_decide_eq_true hk
  obtain ⟨a1, rfl, rfl, rfl, w1⟩ := open_int Try.underlying3 (hval 1 3 v1 rfl rfl) h1
  obtain ⟨a2, rfl, rfl, rfl, w2⟩ := open_int Try.underlying24 (hval 2 24 v2 rfl rfl) h2
  obtain ⟨a0, len0, cap0, rfl⟩ := okWide_slice Try.underlying22 (hval 0 22 v0 rfl rfl)
  obtain ⟨fuel0, hf0⟩ := h0
  obtain ⟨A0, c0, L0, hcs0, hC0, hO0, hU0, hx0⟩ := open_u64sc (cs := [.slice a0 len0 cap0]) hf0
  injection hcs0 with hcs0 _
  injection hcs0 with e1 e2 e3
  subst e1 e2 e3
  have hn0 : L0.length ≤ 1048576 := by
    have h := hk'
    rcases hx0 with ⟨_, hx0⟩ | ⟨elems, sp, hd, hl⟩
    · rw [hx0]; exact Nat.zero_le _
    · simp only [] at hd
      subst hd
      have := length_le elems
      simp only [List.cons_append, List.nil_append, List.append_nil, Rows.uptoBulkAll, Rows.uptoBulk] at h
      omega
  clear hA0
  refine (lvMoved_walk a0 cap0 L0 hU0 (by omega) hC0 a1 a2 (wf_u64 w2) W hO0).mono fun e W' ⟨he, bel⟩ => ?_
  subst he
  exact ⟨_, rfl, _, _, _, [], _, [], hW', trodAll_mk1 (shut_bool Try.underlying4 _), trodAll_carry laid bel (by intro t ht; simp at ht; rcases ht with rfl | rfl | rfl <;> first | exact ⟨read0, lt0⟩ | exact ⟨read1, lt1⟩ | exact ⟨read2, lt2⟩) hA1, rfl, bel.frame _, fun h => by cases h⟩
theorem over : Rows.levelsMovedUptoRow.holds Try.pinned (Rows.OpenSpec.upto Rows.levelsMovedSpec) :=
  OpenClaim.holds_of_cond 11 Try.f11 rfl rfl rfl rfl rfl rfl rfl ⟨rfl, rfl, rfl, rfl, rfl⟩ rfl rfl rfl rfl rfl (by kernel_rfl) Try.func11 (by kernel_rfl)
    (of_decide_eq_true (by kernel_rfl)) (by unfold Func.isWrapper; first | (rw [if_pos (by decide +kernel)]; kernel_rfl) | (rw [if_neg (by decide +kernel)]; exact ⟨rfl, rfl⟩))
    (fun os started H enc _ F => lifted os started H enc F)
theorem proved : Rows.LevelsMovedUptoSaid := over
#print axioms proved
end Go.Proofs.Ytnccgpdniigekaa.RowLevelsMoved
namespace Go.Proofs.Ytnccgpdniigekaa
/-- The row, under a short name, for the claim. -/
theorem levelsMovedUpto_holds : Rows.LevelsMovedUptoSaid := RowLevelsMoved.proved
end Go.Proofs.Ytnccgpdniigekaa
