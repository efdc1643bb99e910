/-
  The statement BufferOrder holds where what it reads is of bulk at most 1048576: whatever the entries, the law returns true, and what it was given reads as it did.
-/
import Derived.Test.YtalhfjcopkmmlaaBfOpen
import Derived.Test.YtalhfjcopkmmlaaBfOrder
namespace Go.Proofs.Ytalhfjcopkmmlaa.RowBufferOrder
open Go.ChangeShapes Go.WideShapes Go.ChangeAt Go.RowKit Go.Joins
set_option linter.unusedVariables false
set_option linter.unusedSimpArgs false
theorem own : ownKnob Try.prog.godebug = none := by kernel_rfl
theorem laid : laidOutB Try.prog = true := by kernel_rfl
theorem read22 : Try.prog.readableRec 22 = true := by kernel_rfl
theorem lt22 : 22 < Try.prog.types.size := of_decide_eq_true (by kernel_rfl)
theorem read23 : Try.prog.readableRec 23 = true := by kernel_rfl
theorem lt23 : 23 < Try.prog.types.size := of_decide_eq_true (by kernel_rfl)
theorem read3 : Try.prog.readableRec 3 = true := by kernel_rfl
theorem lt3 : 3 < Try.prog.types.size := of_decide_eq_true (by kernel_rfl)
theorem one_le {H : Type} (d : DataW H) : 1 ≤ Rows.uptoBulk d := by
  cases d with
  | lit l => cases l <;> simp [Rows.uptoBulk]
  | _ => simp [Rows.uptoBulk]
theorem length_le {H : Type} : ∀ l : List (DataW H), l.length ≤ Rows.uptoBulkAll l
  | [] => Nat.zero_le _
  | x :: r => by have := one_le x; have := length_le r; simp only [Rows.uptoBulkAll, List.length_cons]; omega
set_option maxRecDepth 100000 in
theorem lifted (os : Os) (started : os.Started) (H : Type) (enc : TypeId × Value → H) (F : Stop.Interp) :
    ReturnsInHanded {} Try.checked os 3 .any ((Rows.OpenSpec.upto Rows.bufferOrderSpec).pre6 enc Try.prog Try.f3 Rows.bufferOrderUptoRow.domain false) (((Rows.OpenSpec.upto Rows.bufferOrderSpec).at F).post enc Try.prog Try.f3 false true false false) := by
  refine returnsInHanded_of_cond (C := Try.checked) (s := Rows.OpenSpec.upto Rows.bufferOrderSpec) (k := Rows.uptoSmall) rfl own started (by kernel_rfl) Try.func3
    (OpenSpec.witness (enc := enc) (C := Try.checked) (s := Rows.OpenSpec.upto Rows.bufferOrderSpec) (k := Rows.uptoSmall) rfl false ⟨#[], #[.slice none 0 0, .slice none 0 0, .int .i64 0], []⟩ 8 (by kernel_rfl) (by kernel_rfl) (by kernel_rfl)
      (x := ([.nil, .nil, .lit (.int .i64 0)], [], [])) (by kernel_rfl) rfl (by kernel_rfl)) ?_
  intro W base args ds gs before hval hW _ hk _
  have hW' := hW
  obtain ⟨p, q, hA0, hV, rfl, hfz, hnd⟩ := hW
  have hA : DataW.TrodAll enc Try.prog W 0 (fun _ => true) true Try.f3.params.toList args.toList ds p := hA0
  rw [Try.params3] at hA hval
  have hA1 := hA
  obtain ⟨v0, vs0, d0, ds0, p0, q0, hargs, rfl, rfl, h0, r0⟩ := trodAll_cons hA
  obtain ⟨v1, vs1, d1, ds1, p1, q1, rfl, rfl, rfl, h1, r1⟩ := trodAll_cons r0
  obtain ⟨v2, vs2, d2, ds2, p2, q2, rfl, rfl, rfl, h2, r2⟩ := trodAll_cons r1
  obtain ⟨rfl, rfl, rfl⟩ := trodAll_nil r2
  obtain rfl : args = #[v0, v1, v2] := by cases args; simp_all
  obtain ⟨rfl, rfl⟩ := trodVars_none hV
  clear hA0
  obtain ⟨a0, len, cap, rfl⟩ := okWide_slice Try.underlying22 (hval 0 22 v0 rfl rfl)
  obtain ⟨a1, len1, cap1, rfl⟩ := okWide_slice Try.underlying23 (hval 1 23 v1 rfl rfl)
  obtain ⟨most, rfl, rfl, rfl, w2⟩ := open_int Try.underlying3 (hval 2 3 v2 rfl rfl) h2
  obtain ⟨fuel, hf⟩ := h0
  obtain ⟨A, c, L, hcs, hL, hmax, hx⟩ := open_entries (cs := [.slice a0 len cap]) hf
  injection hcs with hcs _
  injection hcs with e1 e2 e3
  subst e1 e2 e3
  have hn : L.length ≤ 1048576 := by
    have h : Rows.uptoBulkAll ([d0, d1, .lit (.int .i64 most)] ++ [] : List (DataW H)) ≤ 1048576 := of_decide_eq_true hk
    rcases hx with ⟨_, rfl⟩ | ⟨elems, sp, hd, hl⟩
    · exact Nat.zero_le _
    · simp only [] at hd
      subst hd
      have := length_le elems
      simp only [List.append_nil, Rows.uptoBulkAll, Rows.uptoBulk] at h
      omega
  obtain ⟨fuel1, hf1⟩ := h1
  have hB : len1 ≤ 9223372036854775807 ∧ ∃ zs : Nat → Int, 0 < len1 → ∃ b o, a1 = some ⟨b, o, none⟩ ∧ b < W.heap.size ∧ ∀ i, i < len1 → (-9223372036854775808 ≤ zs i ∧ zs i ≤ 9223372036854775807) ∧ W.cell? ⟨b, o + i, none⟩ = some (.int .i64 (zs i)) := by
    rcases open_ints Try.underlying23 Try.underlying3 (by kernel_rfl) hf1 with ⟨hcs, _⟩ | ⟨a, len', cap', zs, hcs, hb, hl, hm, hz, hx, hcell, hwz⟩
    · injection hcs with hcs _
      injection hcs with e1 e2 e3
      subst e1 e2 e3
      exact ⟨by omega, fun _ => 0, fun h => absurd h (by omega)⟩
    · injection hcs with hcs _
      injection hcs with e1 e2 e3
      subst e1 e2 e3
      unfold maxLen at hm
      refine ⟨by omega, fun i => zs.getD i 0, fun h => ?_⟩
      have hzl : len1 ≤ zs.length := by rw [hz]; first | omega | (split <;> omega)
      obtain ⟨b, o, rfl, hc⟩ := ints_at hcell (by omega)
      refine ⟨b, o, rfl, World.block_lt_of_cell? W _ (hc 0 (by omega)), fun i hi => ⟨?_, hc i (by omega)⟩⟩
      have hw : (Lit.int .i64 (zs.getD i 0)).wf = true := by
        have : zs.getD i 0 ∈ zs := by rw [List.getD_eq_getElem?_getD, List.getElem?_eq_getElem (by omega)]; exact List.getElem_mem _
        exact hwz _ this
      simpa [Lit.wf, IntKind.min, IntKind.max, IntKind.signed, IntKind.bits] using hw
  obtain ⟨hl1, zs, hB⟩ := hB
  refine (order_walk a0 a1 cap cap1 len1 L zs most hn hl1 W hL hB).mono fun e W' ⟨he, bel⟩ => ?_
  subst he
  exact ⟨_, rfl, _, _, _, [], _, [], hW', trodAll_mk1 (shut_bool Try.underlying4 _), trodAll_carry laid bel (by intro t ht; simp at ht; rcases ht with rfl | rfl | rfl; exact ⟨read22, lt22⟩; exact ⟨read23, lt23⟩; exact ⟨read3, lt3⟩) hA1, rfl, bel.frame _, fun h => by cases h⟩
theorem over : Rows.bufferOrderUptoRow.holds Try.pinned (Rows.OpenSpec.upto Rows.bufferOrderSpec) :=
  OpenClaim.holds_of_cond 3 Try.f3 rfl rfl rfl rfl rfl rfl rfl ⟨rfl, rfl, rfl, rfl, rfl⟩ rfl rfl rfl rfl rfl (by kernel_rfl) Try.func3 (by kernel_rfl)
    (of_decide_eq_true (by kernel_rfl)) (by unfold Func.isWrapper; first | (rw [if_pos (by decide +kernel)]; kernel_rfl) | (rw [if_neg (by decide +kernel)]; exact ⟨rfl, rfl⟩))
    (fun os started H enc _ F => lifted os started H enc F)
theorem proved : Rows.BufferOrderUptoSaid := over
#print axioms proved
end Go.Proofs.Ytalhfjcopkmmlaa.RowBufferOrder
namespace Go.Proofs.Ytalhfjcopkmmlaa
/-- The row, under a short name, for the claim. -/
theorem bufferOrderUpto_holds : Rows.BufferOrderUptoSaid := RowBufferOrder.proved
end Go.Proofs.Ytalhfjcopkmmlaa
