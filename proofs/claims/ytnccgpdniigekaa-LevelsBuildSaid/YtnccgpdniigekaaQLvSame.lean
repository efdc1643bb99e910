/-
  same: are two levels alike, floats bit by bit.
-/
import Derived.Test.YtnccgpdniigekaaQG27
import Derived.Test.YtnccgpdniigekaaQG16
namespace Go.Proofs.Ytnccgpdniigekaa
open Go.RowKit
set_option linter.unusedVariables false
set_option linter.unusedSimpArgs false
attribute [local go_sem high] binOp_lss64 binOp_gtr64 binOp_geq64 binOp_leq64 binOp_eql64 binOp_neq64 f64bits frombits run_store_float

/-- Alike so far. -/
def EqTo {α : Type} (z : α) (a b : List α) (i : Nat) : Prop := ∀ j, j < i → a.getD j z = b.getD j z
theorem EqTo.zero {α : Type} (z : α) (a b : List α) : EqTo z a b 0 := fun j h => absurd h (by omega)
theorem EqTo.next {α : Type} {z : α} {a b : List α} {i : Nat} (h : EqTo z a b i) (e : a.getD i z = b.getD i z) : EqTo z a b (i + 1) := fun j hj => by
  rcases Nat.lt_or_ge j i with h1 | h1
  · exact h j h1
  · obtain rfl : j = i := by omega
    exact e
theorem EqTo.all {α : Type} {z : α} {a b : List α} (h : EqTo z a b a.length) (hl : a.length = b.length) : a = b := by
  apply List.ext_getElem hl
  intro i h1 h2
  have := h i h1
  rwa [List.getD_eq_getElem?_getD, List.getD_eq_getElem?_getD, List.getElem?_eq_getElem h1, List.getElem?_eq_getElem h2] at this
/-- What same answers. -/
def SameL (a b : List (List Sg)) (w : World) (e : Ending) (w' : World) : Prop := ∃ t : Bool, e = .returned (.bool t) ∧ (t = true ↔ a = b) ∧ Below w.heap.size w w'
set_option maxHeartbeats 8000000 in
set_option maxRecDepth 100000 in
theorem same8 (A B : Option Addr) (c d : Nat) (la lb : List (List Sg)) (hn : la.length ≤ 17592186044416) (hl : ∀ l ∈ la, l.length ≤ 17592186044416) (w : World) (hA : ArgSS w A la) (hB : ArgSS w B lb) :
    Calls Try.prog 19 #[.slice A la.length c, .slice B lb.length d] w (SameL la lb w) := by
  have HA := Lib.hid hA
  have HB := Lib.hid hB
  have HN := Lib.hid hn
  have HL := Lib.hid hl
  by_cases h0 : la.length = lb.length
  · have z0 : ((la.length : Int) != (lb.length : Int)) = false := by simp [h0]
    have LE := Lib.hid h0
    clear hA hB hn hl h0
    go_enter Try.func19, Try.ntmps19
    go_wp2_with fail
    go_loopw [5] (fun x wr => ∃ i : Nat, i ≤ la.length ∧ x = .int .i64 i ∧ Hid (EqTo [] la lb i ∧ Below w.heap.size w wr)) (fun x _ => la.length - (intOf x).toNat)
    case atStart => exact ⟨0, Nat.zero_le _, rfl, Lib.hid ⟨EqTo.zero _ _ _, Below.refl _ _⟩⟩
    case round =>
      obtain ⟨i, hi', rfl, I⟩ := hrel
      by_cases hlt : i < la.length
      · have i0' : (0 : Int) ≤ (i : Int) := by omega
        have i1 : (i : Int) < (la.length : Int) := by omega
        have i2 : (i : Int) < (lb.length : Int) := by have := LE.out; omega
        obtain ⟨b, o, rfl, hb, hc⟩ := HA.out (by omega)
        obtain ⟨b', o', rfl, hb', hc'⟩ := HB.out (by omega)
        obtain ⟨A1, c1, x0, g0⟩ := hc i hlt
        obtain ⟨B1, d1, y0, k0⟩ := hc' i (by have := LE.out; omega)
        have X := Lib.hid (show ∀ w', Below w.heap.size w w' → w'.cell? ⟨b, o + i, none⟩ = some (.slice A1 (la.getD i []).length c1) ∧ w'.cell? ⟨b', o' + i, none⟩ = some (.slice B1 (lb.getD i []).length d1) from fun w' k => ⟨(k.cell (p := ⟨b, _, none⟩) hb).trans x0, (k.cell (p := ⟨b', _, none⟩) hb').trans y0⟩)
        have G := Lib.hid g0
        have G' := Lib.hid k0
        have hla := HL.out (la.getD i []) (mem_getD hlt rfl)
        obtain ⟨l, hl⟩ : ∃ l, la.getD i [] = l := ⟨_, rfl⟩
        obtain ⟨m, hm⟩ : ∃ m, lb.getD i [] = m := ⟨_, rfl⟩
        rw [hl] at X G hla
        rw [hm] at X G'
        have EH := Lib.hid (And.intro hl hm)
        have LLn := Lib.hid hla
        obtain ⟨xa, xb⟩ := X.out _ I.out.2
        clear hc hc' x0 y0 g0 k0 hl hm hla
        by_cases h1 : l.length = m.length
        · have z1 : ((l.length : Int) != (m.length : Int)) = false := by simp [h1]
          have LM := Lib.hid h1
          clear h1
          go_wp2_with fail
          go_quiet (fail)
          go_wp2_with fail
          have B9 := Lib.hid (drewN_below I.out.2 nq)
          clear xa xb z1
          generalize wr.drewN nq = wd at *
          go_loopw [6] (fun x wx => ∃ j : Nat, j ≤ l.length ∧ x = .int .i64 j ∧ Hid (EqTo zS l m j ∧ Below w.heap.size w wx)) (fun x _ => l.length - (intOf x).toNat)
          case atStart => exact ⟨0, Nat.zero_le _, rfl, Lib.hid ⟨EqTo.zero _ _ _, B9.out⟩⟩
          case round =>
            obtain ⟨wi, rfl⟩ : ∃ wi : World, wi = wr := ⟨_, rfl⟩
            obtain ⟨j, hj', rfl, J⟩ := hrel
            obtain ⟨xa, xb⟩ := X.out _ J.out.2
            by_cases hjl : j < l.length
            · have j0 : (0 : Int) ≤ (j : Int) := by omega
              have j1 : (j : Int) < (l.length : Int) := by omega
              have j2 : (j : Int) < (m.length : Int) := by have := LM.out; omega
              obtain ⟨b5, o5, rfl, hb5, hc5⟩ := (G.out.below J.out.2) (by omega)
              obtain ⟨b6, o6, rfl, hb6, hc6⟩ := (G'.out.below J.out.2) (by have := LM.out; omega)
              obtain ⟨s0, s1, s2, s3, s4⟩ := hc5 j hjl
              obtain ⟨t0, t1, t2, t3, t4⟩ := hc6 j (by have := LM.out; omega)
              obtain ⟨s, hs⟩ : ∃ s, l.getD j zS = s := ⟨_, rfl⟩
              obtain ⟨t, ht⟩ : ∃ t, m.getD j zS = t := ⟨_, rfl⟩
              rw [hs] at s0 s1 s2 s3 s4
              rw [ht] at t0 t1 t2 t3 t4
              have ES := Lib.hid (And.intro hs ht)
              have NEA := Lib.hid (show ¬ s = t → ¬ la = lb from fun h h' => h (by rw [← hs, ← ht, ← EH.out.1, ← EH.out.2, h']))
              have hxb := cell_lt xb
              obtain ⟨f, sl, ic, fr, up⟩ := s
              obtain ⟨f', sl', ic', fr', up'⟩ := t
              simp only [] at s0 s1 s2 s3 s4 t0 t1 t2 t3 t4
              clear hs ht hc5 hc6
              go_wp2_with fail
              by_cases q1 : f = f'
              · subst q1
                by_cases q2 : fr = fr'
                · subst q2
                  by_cases q3 : up = up'
                  · subst q3
                    by_cases q4 : sl = sl'
                    · subst q4
                      by_cases q5 : ic = ic'
                      · subst q5
                        have NX := Lib.hid (J.out.1.next (ES.out.1.trans ES.out.2.symm))
                        have hl2 := LLn.out
                        have v1 : wrap64 ((j : Int) + 1) = (j : Int) + 1 := by unfold wrap64; omega
                        clear hl2
                        go_quiet (fail)
                        go_wp2_with fail
                        go_roundw
                        case rel => exact ⟨j + 1, Nat.succ_le_of_lt hjl, (by first | rfl | (rw [v1]; rfl)), Lib.hid ⟨NX.out, drewN_below (below_new (below_new J.out.2 _) _) nq⟩⟩
                        case measure => first | exact meas_next hjl | (rw [v1]; exact meas_next hjl)
                      · have z3 : ((ic : Int) != (ic' : Int)) = true := by rw [bne_iff_ne]; omega
                        have NE := Lib.hid (NEA.out (fun h => q5 (by injection h)))
                        clear q5
                        go_quiet (fail)
                        go_wp2_with fail
                        go_ret
                        exact ⟨false, rfl, ⟨fun h => absurd h (by simp), fun h => absurd h NE.out⟩, drewN_below (below_new (below_new J.out.2 _) _) nq⟩
                    · have z3 : ((sl : Int) != (sl' : Int)) = true := by rw [bne_iff_ne]; omega
                      have NE := Lib.hid (NEA.out (fun h => q4 (by injection h)))
                      clear q4
                      go_quiet (fail)
                      go_wp2_with fail
                      go_ret
                      exact ⟨false, rfl, ⟨fun h => absurd h (by simp), fun h => absurd h NE.out⟩, drewN_below (below_new (below_new J.out.2 _) _) nq⟩
                  · have z3 : (up != up') = true := by rw [bne_iff_ne]; exact q3
                    have NE := Lib.hid (NEA.out (fun h => q3 (by injection h)))
                    clear q3
                    go_quiet (fail)
                    go_wp2_with fail
                    go_ret
                    exact ⟨false, rfl, ⟨fun h => absurd h (by simp), fun h => absurd h NE.out⟩, drewN_below (below_new (below_new J.out.2 _) _) nq⟩
                · have z3 : (fr != fr') = true := by rw [bne_iff_ne]; exact q2
                  have NE := Lib.hid (NEA.out (fun h => q2 (by injection h)))
                  clear q2
                  go_quiet (fail)
                  go_wp2_with fail
                  go_ret
                  exact ⟨false, rfl, ⟨fun h => absurd h (by simp), fun h => absurd h NE.out⟩, drewN_below (below_new (below_new J.out.2 _) _) nq⟩
              · have z3 : (f != f') = true := by rw [bne_iff_ne]; exact q1
                have NE := Lib.hid (NEA.out (fun h => q1 (by injection h)))
                clear q1
                go_quiet (fail)
                go_wp2_with fail
                go_ret
                exact ⟨false, rfl, ⟨fun h => absurd h (by simp), fun h => absurd h NE.out⟩, drewN_below (below_new (below_new J.out.2 _) _) nq⟩
            · have E := Lib.hid (show l = m from by
                obtain rfl : j = l.length := by omega
                exact J.out.1.all LM.out)
              have NX := Lib.hid (I.out.1.next (EH.out.1.trans (E.out.trans EH.out.2.symm)))
              have j1 : ¬ (j : Int) < (l.length : Int) := by omega
              have hN2 := HN.out
              have v1 : wrap64 ((i : Int) + 1) = (i : Int) + 1 := by unfold wrap64; omega
              clear hN2
              go_wp2_with fail
              go_roundw
              case rel => exact ⟨i + 1, Nat.succ_le_of_lt hlt, (by first | rfl | (rw [v1]; rfl)), Lib.hid ⟨NX.out, J.out.2⟩⟩
              case measure => first | exact meas_next hlt | (rw [v1]; exact meas_next hlt)
        · have z1 : ((l.length : Int) != (m.length : Int)) = true := by rw [bne_iff_ne]; omega
          have NE := Lib.hid (show ¬ la = lb from fun h => h1 (by rw [← EH.out.1, ← EH.out.2, h]))
          clear h1
          go_wp2_with fail
          go_quiet (fail)
          go_wp2_with fail
          go_ret
          exact ⟨false, rfl, ⟨fun h => absurd h (by simp), fun h => absurd h NE.out⟩, drewN_below I.out.2 nq⟩
      · have E := Lib.hid (show la = lb from by
          obtain rfl : i = la.length := by omega
          exact I.out.1.all LE.out)
        have i1 : ¬ (i : Int) < (la.length : Int) := by omega
        go_wp2_with fail
        go_ret
        exact ⟨true, rfl, ⟨fun _ => E.out, fun _ => rfl⟩, I.out.2⟩
  · have z0 : ((la.length : Int) != (lb.length : Int)) = true := by rw [bne_iff_ne]; omega
    have NE := Lib.hid (show ¬ la = lb from fun h => h0 (by rw [h]))
    clear hA hB hn hl h0
    go_enter Try.func19, Try.ntmps19
    go_wp2_with fail
    go_ret
    exact ⟨false, rfl, ⟨fun h => absurd h (by simp), fun h => absurd h NE.out⟩, Below.refl _ _⟩
end Go.Proofs.Ytnccgpdniigekaa
