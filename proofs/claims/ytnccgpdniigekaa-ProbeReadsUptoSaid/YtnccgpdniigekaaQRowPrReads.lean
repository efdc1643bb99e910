/-
  The statement ProbeReads holds where what it reads is of bulk at most 1048576: whatever the arguments, the law returns true, and what it was given reads as it did.
-/
import Derived.Test.YtnccgpdniigekaaQG37
import Derived.Test.YtnccgpdniigekaaQPrLReads
namespace Go.Proofs.Ytnccgpdniigekaa.RowProbeReads
open Go.ChangeShapes Go.WideShapes Go.ChangeAt Go.RowKit Go.Joins Go.Deep
set_option linter.unusedVariables false
set_option linter.unusedSimpArgs false
theorem own : ownKnob Try.prog.godebug = none := by kernel_rfl
theorem laid : laidOutB Try.prog = true := by kernel_rfl
theorem read0 : Try.prog.readableRec 47 = true := by kernel_rfl
theorem lt0 : 47 < Try.prog.types.size := of_decide_eq_true (by kernel_rfl)
theorem read1 : Try.prog.readableRec 22 = true := by kernel_rfl
theorem lt1 : 22 < Try.prog.types.size := of_decide_eq_true (by kernel_rfl)
set_option maxRecDepth 100000 in
theorem lifted (os : Os) (started : os.Started) (H : Type) (enc : TypeId × Value → H) (F : Stop.Interp) :
    ReturnsInHanded {} Try.checked os 13 .any ((Rows.OpenSpec.upto Rows.probeReadsSpec).pre6 enc Try.prog Try.f13 Rows.probeReadsUptoRow.domain false) (((Rows.OpenSpec.upto Rows.probeReadsSpec).at F).post enc Try.prog Try.f13 false true false false) := by
  refine returnsInHanded_of_cond (C := Try.checked) (s := Rows.OpenSpec.upto Rows.probeReadsSpec) (k := Rows.uptoSmall) rfl own started (by kernel_rfl) Try.func13
    (OpenSpec.witness (enc := enc) (C := Try.checked) (s := Rows.OpenSpec.upto Rows.probeReadsSpec) (k := Rows.uptoSmall) rfl false ⟨#[], #[.agg #[.slice none 0 0, .int .i64 0, .bool false, .slice none 0 0], .slice none 0 0], []⟩ 8 (by kernel_rfl) (by kernel_rfl) (by kernel_rfl)
      (x := ([.agg [.nil, .lit (.int .i64 0), .lit (.bool false), .nil], .nil], [], [])) (by kernel_rfl) rfl (by kernel_rfl)) ?_
  intro W base args ds gs before hval hW _ hk _
  have hW' := hW
  obtain ⟨p, q, hA0, hV, rfl, hfz, hnd⟩ := hW
  have hA : DataW.TrodAll enc Try.prog W 0 (fun _ => true) true Try.f13.params.toList args.toList ds p := hA0
  rw [Try.params13] at hA hval
  have hA1 := hA
  obtain ⟨v0, vs0, d0, ds0, p0, q0, hargs, rfl, rfl, h0, r0⟩ := trodAll_cons hA
  obtain ⟨v1, vs1, d1, ds1, p1, q1, rfl, rfl, rfl, h1, r1⟩ := trodAll_cons r0
  obtain ⟨rfl, rfl, rfl⟩ := trodAll_nil r1
  obtain rfl : args = #[v0, v1] := by cases args; simp_all
  obtain ⟨rfl, rfl⟩ := trodVars_none hV
  have hk' : Rows.uptoBulkAll ([d0, d1] ++ [] : List (DataW H)) ≤ 1048576 := of_decide_eq_true hk
  obtain ⟨AK, cK, K, eps, ow, AM, cM, M, rfl, hmade⟩ := open_made (hval 0 47 v0 rfl rfl) h0
  obtain ⟨a1, len1, cap1, rfl⟩ := okWide_slice Try.underlying22 (hval 1 22 v1 rfl rfl)
  obtain ⟨fuel1, hf1⟩ := h1
  obtain ⟨A1, c1, L1, hcs1, hC1, hO1, hU1, hx1⟩ := open_u64sc (cs := [.slice a1 len1 cap1]) hf1
  injection hcs1 with hcs1 _
  injection hcs1 with e1 e2 e3
  subst e1 e2 e3
  simp only [List.cons_append, List.nil_append, List.append_nil, Rows.uptoBulkAll] at hk'
  have hn1 : L1.length ≤ 1048576 := by
    rcases hx1 with ⟨_, hx1⟩ | ⟨elems, sp, hd, hl⟩
    · rw [hx1]; exact Nat.zero_le _
    · simp only [] at hd
      subst hd
      have := bulk_len elems
      simp only [Rows.uptoBulk] at hk'
      omega
  have hm := hmade (by omega)
  clear hA0
  refine (prReads_walk W hm hU1 hO1 hn1).mono fun e W' ⟨he, bel⟩ => ?_
  subst he
  exact ⟨_, rfl, _, _, _, [], _, [], hW', trodAll_mk1 (shut_bool Try.underlying4 _), trodAll_carry laid bel (by intro t ht; simp at ht; rcases ht with rfl | rfl <;> first | exact ⟨read0, lt0⟩ | exact ⟨read1, lt1⟩) hA1, rfl, bel.frame _, fun h => by cases h⟩
theorem over : Rows.probeReadsUptoRow.holds Try.pinned (Rows.OpenSpec.upto Rows.probeReadsSpec) :=
  OpenClaim.holds_of_cond 13 Try.f13 rfl rfl rfl rfl rfl rfl rfl ⟨rfl, rfl, rfl, rfl, rfl⟩ rfl rfl rfl rfl rfl (by kernel_rfl) Try.func13 (by kernel_rfl)
    (of_decide_eq_true (by kernel_rfl)) (by unfold Func.isWrapper; first | (rw [if_pos (by decide +kernel)]; kernel_rfl) | (rw [if_neg (by decide +kernel)]; exact ⟨rfl, rfl⟩))
    (fun os started H enc _ F => lifted os started H enc F)
theorem proved : Rows.ProbeReadsUptoSaid := over
#print axioms proved
end Go.Proofs.Ytnccgpdniigekaa.RowProbeReads
namespace Go.Proofs.Ytnccgpdniigekaa
/-- The row, under a short name, for the claim. -/
theorem probeReadsUpto_holds : Rows.ProbeReadsUptoSaid := RowProbeReads.proved
end Go.Proofs.Ytnccgpdniigekaa
