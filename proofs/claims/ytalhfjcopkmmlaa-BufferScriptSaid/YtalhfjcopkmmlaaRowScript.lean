/-
  The statement BufferScript holds: whatever the arguments, the law returns true, and what it was given reads as it did.
-/
import Derived.Test.YtalhfjcopkmmlaaRowW
import Derived.Test.YtalhfjcopkmmlaaBfScript
namespace Go.Proofs.Ytalhfjcopkmmlaa.RowBufferScript
open Go.ChangeShapes Go.WideShapes Go.ChangeAt Go.RowKit Go.Joins Go.Deep
set_option linter.unusedVariables false
set_option linter.unusedSimpArgs false
theorem own : ownKnob Try.prog.godebug = none := by kernel_rfl
theorem laid : laidOutB Try.prog = true := by kernel_rfl
theorem read41 : Try.prog.readableRec 41 = true := by kernel_rfl
theorem lt41 : 41 < Try.prog.types.size := of_decide_eq_true (by kernel_rfl)
theorem read3 : Try.prog.readableRec 3 = true := by kernel_rfl
theorem lt3 : 3 < Try.prog.types.size := of_decide_eq_true (by kernel_rfl)
theorem open_ops {H : Type} {enc : TypeId × Value → H} {w : World} {base : Nat} {spare : Nat → Bool} {held : Bool} {fuel : Nat} {cs : List Value} {x : DataW H × List MemPlace} (h : DataW.trod enc Try.prog w base spare held fuel 41 cs = some x) :
    ∃ (A : Option Addr) (n c : Nat) (K : Nat → Int) (E : Nat → Ent), cs = [.slice A n c] ∧ ArgO w A n K E ∧ ((x.1 = .nil ∧ n = 0) ∨ ∃ elems sp, x.1 = .slice elems sp ∧ elems.length = n) := by
  rcases open_slice Try.underlying41 h with ⟨rfl, rfl⟩ | ⟨a, len, cap, m, n, D, Pl, rfl, hb, hl, hm, hmm, hx, hi⟩
  · exact ⟨none, 0, 0, fun _ => 0, fun _ => (0, 0, false), rfl, fun h => absurd h (by omega), .inl ⟨rfl, rfl⟩⟩
  · have hlm : len ≤ m := by subst hmm; split <;> omega
    have hC : Try.prog.cellsOf 48 = 4 := by kernel_rfl
    have hCE : Try.prog.cellsOf 27 = 3 := by kernel_rfl
    have hC1 : Try.prog.cellsOf 25 = 1 := by kernel_rfl
    have hC2 : Try.prog.cellsOf 4 = 1 := by kernel_rfl
    have hC3 : Try.prog.cellsOf 3 = 1 := by kernel_rfl
    have key : ∀ i, i < len → ∃ ke : Int × Ent, (-9223372036854775808 ≤ ke.1 ∧ ke.1 ≤ 9223372036854775807) ∧ w.cell? (a.add (i * 4)) = some (.int .i64 ke.1) ∧ w.cell? (a.add (i * 4 + 1)) = some (.int .u64 ke.2.1) ∧ w.cell? (a.add (i * 4 + 2)) = some (.int .u64 ke.2.2.1) ∧ w.cell? (a.add (i * 4 + 3)) = some (.bool ke.2.2.2) := by
      intro i hil
      obtain ⟨cs', hc, ht'⟩ := hi i (by omega)
      rw [hC] at hc
      obtain ⟨_, hcl, hat⟩ := World.cells?_some hc
      obtain ⟨ys, n', _, _, _, hyl, hf⟩ := DataW.trod_struct Try.underlying48 ht'
      have f0 := hf 0 _ rfl
      have f1 := hf 1 _ rfl
      match cs', hcl with
      | [z0, z1, z2, z3], _ =>
        have f0' : DataW.trod enc Try.prog w base spare held n' 3 [z0] = ys[0]? := by simpa [hC3] using f0
        have f1' : DataW.trod enc Try.prog w base spare held n' 27 [z1, z2, z3] = ys[1]? := by simpa [hCE] using f1
        rw [List.getElem?_eq_getElem (show 0 < ys.length by rw [hyl]; decide)] at f0'
        rw [List.getElem?_eq_getElem (show 1 < ys.length by rw [hyl]; decide)] at f1'
        obtain ⟨k, e0, _, hk⟩ := DataW.trod_int Try.underlying3 f0'
        obtain ⟨zs, n2, _, _, _, hzl, hg⟩ := DataW.trod_struct Try.underlying27 f1'
        have g0 : DataW.trod enc Try.prog w base spare held n2 25 [z1] = zs[0]? := by simpa [hC1] using hg 0 _ rfl
        have g1 : DataW.trod enc Try.prog w base spare held n2 25 [z2] = zs[1]? := by simpa [hC1] using hg 1 _ rfl
        have g2 : DataW.trod enc Try.prog w base spare held n2 4 [z3] = zs[2]? := by simpa [hC2] using hg 2 _ rfl
        rw [List.getElem?_eq_getElem (show 0 < zs.length by rw [hzl]; decide)] at g0
        rw [List.getElem?_eq_getElem (show 1 < zs.length by rw [hzl]; decide)] at g1
        rw [List.getElem?_eq_getElem (show 2 < zs.length by rw [hzl]; decide)] at g2
        obtain ⟨k1, e1, _, _⟩ := DataW.trod_int Try.underlying25 g0
        obtain ⟨k2, e2, _, _⟩ := DataW.trod_int Try.underlying25 g1
        obtain ⟨k3, e3, _⟩ := DataW.trod_bool Try.underlying4 g2
        simp only [List.cons.injEq, and_true] at e0 e1 e2 e3
        subst e0 e1 e2 e3
        have h0 := hat 0 (by simp)
        have h1 := hat 1 (by simp)
        have h2 := hat 2 (by simp)
        have h3 := hat 3 (by simp)
        simp only [Go.Deep.add_add] at h0 h1 h2 h3
        exact ⟨(k, k1, k2, k3), by simpa [Lit.wf, IntKind.min, IntKind.max, IntKind.signed, IntKind.bits] using hk, by simpa [hC] using h0, by simpa [hC] using h1, by simpa [hC] using h2, by simpa [hC] using h3⟩
    obtain ⟨F, hF⟩ := choose_lt key
    refine ⟨some a, len, cap, fun i => (F i).1, fun i => (F i).2, rfl, fun hn => ?_, .inr ⟨_, _, by rw [hx], by simp⟩⟩
    have h0 := (hF 0 hn).2.1
    obtain ⟨b, o, r⟩ := a
    have hr : r = none := by simpa [Addr.add] using World.cell?_spot h0
    subst hr
    refine ⟨b, o, rfl, World.block_lt_of_cell? w _ (by rw [Addr.add_mid] at h0; exact h0), fun i hil => ?_⟩
    obtain ⟨q, c0, c1, c2, c3⟩ := hF i hil
    rw [Addr.add_mid] at c0 c1 c2 c3
    exact ⟨q, c0, c1, c2, c3⟩
set_option maxRecDepth 100000 in
theorem lifted (os : Os) (started : os.Started) (H : Type) (enc : TypeId × Value → H) :
    ReturnsInHanded {} Try.checked os 5 .any (Rows.bufferScriptSpec.pre6 enc Try.prog Try.f5 Rows.bufferScriptRow.domain false) (Rows.bufferScriptSpec.post enc Try.prog Try.f5 false true false false) := by
  refine returnsInHanded_of_change_sized (C := Try.checked) own started (by kernel_rfl) Try.func5
    (ChangeSpec.witness6 (enc := enc) (C := Try.checked) false ⟨#[], #[.int .i64 0, .slice none 0 0], []⟩ 8 (by kernel_rfl) (by kernel_rfl) (by kernel_rfl) (by kernel_rfl)) ?_
  intro W base args ds gs before hval0 hW hcnd hsz0 _
  have hsz : (DataW.weightsEach Try.prog (Try.f5.params.toList ++ Rows.bufferScriptSpec.plain.varTypes Try.prog) (ds ++ gs)).all (· ≤ reachBytes) = true := hsz0
  have hval : ∀ (j : Nat) t v, Try.f5.params[j]? = some t → args[j]? = some v → Value.okWide Try.prog W .any base t v := hval0
  have hW' := hW
  obtain ⟨p, q, hA0, hV, rfl, hfz, hnd⟩ := hW
  have hA : DataW.TrodAll enc Try.prog W 0 (fun _ => true) true Try.f5.params.toList args.toList ds p := hA0
  rw [Try.params5] at hA hval hsz
  have hA1 := hA
  obtain ⟨v0, vs0, d0, ds0, p0, q0, hargs, rfl, rfl, h0, r0⟩ := trodAll_cons hA
  obtain ⟨v1, vs1, d1, ds1, p1, q1, rfl, rfl, rfl, h1, r1⟩ := trodAll_cons r0
  obtain ⟨rfl, rfl, rfl⟩ := trodAll_nil r1
  obtain rfl : args = #[v0, v1] := by cases args; simp_all
  obtain ⟨rfl, rfl⟩ := trodVars_none hV
  obtain ⟨a0, rfl, rfl, rfl, w0⟩ := open_int Try.underlying3 (hval 0 3 v0 rfl rfl) h0
  obtain ⟨a1, len1, cap1, rfl⟩ := okWide_slice Try.underlying41 (hval 1 41 v1 rfl rfl)
  obtain ⟨fuel, hf⟩ := h1
  obtain ⟨A, n, c, K, E, hcs, hO, hx⟩ := open_ops (cs := [.slice a1 len1 cap1]) hf
  injection hcs with hcs _
  injection hcs with e1 e2 e3
  subst e1 e2 e3
  have hn : (len1 + 2) * 24 ≤ 140737488355328 := by
    rcases hx with ⟨_, rfl⟩ | ⟨elems, sp, hd, hl⟩
    · omega
    · simp only [] at hd
      subst hd
      have h := sized_slice hsz (j := 1) (t := 41) rfl rfl Try.underlying41
      have hb : Try.prog.bytesOf 48 = 32 := by kernel_rfl
      rw [hb] at h
      unfold reachBytes at h
      omega
  clear hA0 hval0 hsz0 hsz
  refine (script_walk a0 a1 cap1 len1 K E hn W hO).mono fun e W' ⟨he, bel⟩ => ?_
  subst he
  exact ⟨_, rfl, _, _, _, [], _, [], hW', trodAll_mk1 (shut_bool Try.underlying4 _), trodAll_carry laid bel (by intro t ht; simp at ht; rcases ht with rfl | rfl; exact ⟨read3, lt3⟩; exact ⟨read41, lt41⟩) hA1, rfl, bel.frame _, fun h => by cases h⟩
theorem over : Rows.bufferScriptRow.holds Try.pinned (OpenSpec.ofChange Rows.bufferScriptSpec) :=
  OpenClaim.holds_of_wide 5 Try.f5 rfl rfl rfl rfl rfl rfl rfl ⟨rfl, rfl, rfl, rfl, rfl⟩ rfl rfl rfl rfl rfl (by kernel_rfl) Try.func5 (by kernel_rfl)
    (of_decide_eq_true (by kernel_rfl)) (by unfold Func.isWrapper; first | (rw [if_pos (by decide +kernel)]; kernel_rfl) | (rw [if_neg (by decide +kernel)]; exact ⟨rfl, rfl⟩))
    (fun os started H enc _ => lifted os started H enc)
theorem proved : Rows.BufferScriptSaid := over
#print axioms proved
end Go.Proofs.Ytalhfjcopkmmlaa.RowBufferScript
namespace Go.Proofs.Ytalhfjcopkmmlaa
/-- The row, under a short name, for the claim. -/
theorem bufferScript_holds : Rows.BufferScriptSaid := RowBufferScript.proved
end Go.Proofs.Ytalhfjcopkmmlaa
