/-
  The statement BufferLast holds where what it reads is of bulk at most 1048576: whatever the entries, the law returns true, and what it was given reads as it did.
-/
import Derived.Test.YtalhfjcopkmmlaaBfOpen
import Derived.Test.YtalhfjcopkmmlaaBfLast
namespace Go.Proofs.Ytalhfjcopkmmlaa.RowBufferLast
open Go.ChangeShapes Go.WideShapes Go.ChangeAt Go.RowKit Go.Joins
set_option linter.unusedVariables false
set_option linter.unusedSimpArgs false
theorem own : ownKnob Try.prog.godebug = none := by kernel_rfl
theorem laid : laidOutB Try.prog = true := by kernel_rfl
theorem read22 : Try.prog.readableRec 22 = true := by kernel_rfl
theorem lt22 : 22 < Try.prog.types.size := of_decide_eq_true (by kernel_rfl)
theorem one_le {H : Type} (d : DataW H) : 1 ≤ Rows.uptoBulk d := by
  cases d with
  | lit l => cases l <;> simp [Rows.uptoBulk]
  | _ => simp [Rows.uptoBulk]
theorem length_le {H : Type} : ∀ l : List (DataW H), l.length ≤ Rows.uptoBulkAll l
  | [] => Nat.zero_le _
  | x :: r => by have := one_le x; have := length_le r; simp only [Rows.uptoBulkAll, List.length_cons]; omega
set_option maxRecDepth 100000 in
theorem lifted (os : Os) (started : os.Started) (H : Type) (enc : TypeId × Value → H) (F : Stop.Interp) :
    ReturnsInHanded {} Try.checked os 4 .any ((Rows.OpenSpec.upto Rows.bufferLastSpec).pre6 enc Try.prog Try.f4 Rows.bufferLastUptoRow.domain false) (((Rows.OpenSpec.upto Rows.bufferLastSpec).at F).post enc Try.prog Try.f4 false true false false) := by
  refine returnsInHanded_of_cond (C := Try.checked) (s := Rows.OpenSpec.upto Rows.bufferLastSpec) (k := Rows.uptoSmall) rfl own started (by kernel_rfl) Try.func4
    (OpenSpec.witness (enc := enc) (C := Try.checked) (s := Rows.OpenSpec.upto Rows.bufferLastSpec) (k := Rows.uptoSmall) rfl false ⟨#[], #[.slice none 0 0], []⟩ 8 (by kernel_rfl) (by kernel_rfl) (by kernel_rfl)
      (x := ([.nil], [], [])) (by kernel_rfl) rfl (by kernel_rfl)) ?_
  intro W base args ds gs before hval hW _ hk _
  have hW' := hW
  obtain ⟨p, q, hA0, hV, rfl, hfz, hnd⟩ := hW
  have hA : DataW.TrodAll enc Try.prog W 0 (fun _ => true) true Try.f4.params.toList args.toList ds p := hA0
  rw [Try.params4] at hA hval
  have hA1 := hA
  obtain ⟨v0, vs0, d0, ds0, p0, q0, hargs, rfl, rfl, h0, r0⟩ := trodAll_cons hA
  obtain ⟨rfl, rfl, rfl⟩ := trodAll_nil r0
  obtain rfl : args = #[v0] := by cases args; simp_all
  obtain ⟨rfl, rfl⟩ := trodVars_none hV
  clear hA0
  obtain ⟨a0, len, cap, rfl⟩ := okWide_slice Try.underlying22 (hval 0 22 v0 rfl rfl)
  obtain ⟨fuel, hf⟩ := h0
  obtain ⟨A, c, L, hcs, hL, hmax, hx⟩ := open_entries (cs := [.slice a0 len cap]) hf
  injection hcs with hcs _
  injection hcs with e1 e2 e3
  subst e1 e2 e3
  have hn : L.length ≤ 1048576 := by
    have h : Rows.uptoBulkAll ([d0] ++ [] : List (DataW H)) ≤ 1048576 := of_decide_eq_true hk
    rcases hx with ⟨_, rfl⟩ | ⟨elems, sp, hd, hl⟩
    · exact Nat.zero_le _
    · simp only [] at hd
      subst hd
      have := length_le elems
      simp only [List.append_nil, Rows.uptoBulkAll, Rows.uptoBulk] at h
      omega
  refine (last_walk a0 cap L hn W hL).mono fun e W' ⟨he, bel⟩ => ?_
  subst he
  exact ⟨_, rfl, _, _, _, [], _, [], hW', trodAll_mk1 (shut_bool Try.underlying4 _), trodAll_carry laid bel (by intro t ht; simp at ht; subst ht; exact ⟨read22, lt22⟩) hA1, rfl, bel.frame _, fun h => by cases h⟩
theorem over : Rows.bufferLastUptoRow.holds Try.pinned (Rows.OpenSpec.upto Rows.bufferLastSpec) :=
  OpenClaim.holds_of_cond 4 Try.f4 rfl rfl rfl rfl rfl rfl rfl ⟨rfl, rfl, rfl, rfl, rfl⟩ rfl rfl rfl rfl rfl (by kernel_rfl) Try.func4 (by kernel_rfl)
    (of_decide_eq_true (by kernel_rfl)) (by unfold Func.isWrapper; first | (rw [if_pos (by decide +kernel)]; kernel_rfl) | (rw [if_neg (by decide +kernel)]; exact ⟨rfl, rfl⟩))
    (fun os started H enc _ F => lifted os started H enc F)
theorem proved : Rows.BufferLastUptoSaid := over
#print axioms proved
end Go.Proofs.Ytalhfjcopkmmlaa.RowBufferLast
namespace Go.Proofs.Ytalhfjcopkmmlaa
/-- The row, under a short name, for the claim. -/
theorem bufferLastUpto_holds : Rows.BufferLastUptoSaid := RowBufferLast.proved
end Go.Proofs.Ytalhfjcopkmmlaa
