/-
  What gives up, and what catches it.
-/
import Derived.Test.YtnccgpdniigekaaQG24
import Derived.Defers
import Derived.Recover
import Derived.WalkLawsBesides
import Derived.Test.YtnccgpdniigekaaQG23
import Derived.StillTailTactics
namespace Go.Proofs.Ytnccgpdniigekaa
open Go.RowKit
set_option linter.unusedVariables false
set_option linter.unusedSimpArgs false
attribute [local go_sem high] run_store_float

/-- What is given up by. -/
def gave (c : Int) : List PanicEntry := [{ v := .iface 78 (.agg #[.int .i64 c]), recovered := false }]
theorem must_ok (c : Int) (w : World) : Calls Try.prog 47 #[.bool true, .int .i64 c] w fun e w' => e = .returned (.tuple #[]) ∧ w = w' := by
  go_enter Try.func47, Try.ntmps47
  go_wp2
  go_end0
  exact ⟨rfl, rfl⟩
theorem must_no (c : Int) (w : World) : Calls Try.prog 47 #[.bool false, .int .i64 c] w fun e w' => e = .panicked (gave c) ∧ w = w' := by
  go_enter Try.func47, Try.ntmps47
  go_wp2
  simp [bodyPost, gave]
theorem cell_lt {w : World} {b o : Nat} {v : Value} (h : w.cell? ⟨b, o, none⟩ = some v) : b < w.heap.size := by
  apply Classical.byContradiction
  intro hb
  have : w.heap[b]? = none := by simp; omega
  simp [World.cell?, this] at h
theorem catch_tmps (p v : Value) : #[p] ++ (((((Array.replicate 16 undef).setIfInBounds 3 v).setIfInBounds 0 v).setIfInBounds 4 v).setIfInBounds 5 (.bool true)) = #[p, v, undef, undef, v, v, .bool true, undef, undef, undef, undef, undef, undef, undef, undef, undef, undef] := by
  apply Array.ext'
  simp [Array.toList_setIfInBounds, Array.toList_replicate, List.replicate]
set_option maxRecDepth 100000 in
theorem catch_panicking (b : Nat) (x c : Int) (older : List PanicEntry) (w : World) (hc : w.cell? ⟨b, 0, none⟩ = some (.int .i64 x)) (hz : w.frozen? ⟨b, 0, none⟩ = false) :
    CallsD Try.prog 46 #[.pointer (some ⟨b, 0, none⟩)] (.panicking ({ v := .iface 78 (.agg #[.int .i64 c]), recovered := false } :: older)) w fun e u' w' =>
      e = .returned (.tuple #[]) ∧ u' = .panicking ({ v := .iface 78 (.agg #[.int .i64 c]), recovered := true } :: older) ∧ w' = (w.setCell ⟨b, 0, none⟩ (.int .i64 c)).alloc (.cells #[.int .i64 c] 78) := by
  refine callsD_of_wpS Try.func46 rfl fun c₀ cs hu => ?_
  apply wpS_seq
  apply wpS_region
  simp [wpOpsS, go_sem, recoverD, hu, Try.ntmps46, Exit.thenS]
  apply wpS_seq
  apply wpS_region
  simp [wpOpsS, go_sem, recoverD, hu, Try.ntmps46, Exit.thenS]
  refine wpS_cond (t := true) (by simp [Act.eval, Array.replicate]) ?_
  simp only [if_true]
  refine wpS_of_wp ?_
  have hta : ∀ w, (Instr.typeAssert (.iface 78 (.agg #[.int .i64 c])) 20 78 true).run Try.prog w = .ok (.tuple #[.agg #[.int .i64 c], .bool true]) w := fun w => by
    have hu := Try.underlying78
    simp [Instr.typeAssert, run_underlying hu, go_sem, Result.andThen]
  rw [catch_tmps]
  have hlt := cell_lt hc
  have hc2 : (w.alloc (.cells #[.int .i64 c] 78)).cell? ⟨b, 0, none⟩ = some (.int .i64 x) := (World.cell?_alloc_past _ _ _ hlt).trans hc
  have hz2 : (w.alloc (.cells #[.int .i64 c] 78)).frozen? ⟨b, 0, none⟩ = false := (RowKit.frozen?_alloc_cells _ _ _ _).trans hz
  go_wp2_with fail
  simp [bodyPostS, results, Try.results46]
theorem catch_idle (p : Addr) (w : World) :
    CallsD Try.prog 46 #[.pointer (some p)] .returning w fun e u' w' => e = .returned (.tuple #[]) ∧ u' = .returning ∧ w' = w := by
  refine callsD_of_wpS Try.func46 rfl fun c₀ cs hu => ?_
  apply wpS_seq
  apply wpS_region
  simp [wpOpsS, go_sem, recoverD, hu, Try.ntmps46, Exit.thenS]
  apply wpS_seq
  apply wpS_region
  simp [wpOpsS, go_sem, recoverD, hu, Try.ntmps46, Exit.thenS]
  refine wpS_cond (t := false) (by simp [Act.eval, Array.replicate]) ?_
  simp only [Bool.false_eq_true, if_false]
  refine wpS_of_wp (wp_skip ?_)
  cases c₀
  simp_all [bodyPostS, results, Try.results46]
end Go.Proofs.Ytnccgpdniigekaa
/-
  Do segments tile so many slots: levels.tiles and the reference's.
-/
namespace Go.Proofs.Ytnccgpdniigekaa
open Go.RowKit
set_option linter.unusedVariables false
set_option linter.unusedSimpArgs false
attribute [local go_sem high] run_store_float

/-- The segments tile the slots from a on up to n. -/
def tl (n : Int) : Int → List Sg → Bool
  | a, [] => decide (a = n)
  | a, s :: l => decide (s.fr = a ∧ a < s.up ∧ s.up ≤ n) && tl n s.up l
theorem drop_at {α : Type} (z : α) (l : List α) {i : Nat} (hi : i < l.length) : l.drop i = l.getD i z :: l.drop (i + 1) := by
  rw [List.drop_eq_getElem_cons hi, List.getD_eq_getElem?_getD, List.getElem?_eq_getElem hi]; rfl
theorem tl_step {n a : Int} {l : List Sg} {i : Nat} {s : Sg} (hi : i < l.length) (hs : l.getD i zS = s) (h : s.fr = a ∧ a < s.up ∧ s.up ≤ n) : tl n a (l.drop i) = tl n s.up (l.drop (i + 1)) := by
  rw [drop_at zS l hi, hs, tl, decide_eq_true h, Bool.true_and]
theorem tl_bad {n a : Int} {l : List Sg} {i : Nat} {s : Sg} (hi : i < l.length) (hs : l.getD i zS = s) (h : ¬ (s.fr = a ∧ a < s.up ∧ s.up ≤ n)) : tl n a (l.drop i) = false := by
  rw [drop_at zS l hi, hs, tl, decide_eq_false h, Bool.false_and]
theorem tl_end {n a : Int} {l : List Sg} {i : Nat} (hi : ¬ i < l.length) : tl n a (l.drop i) = decide (a = n) := by
  rw [List.drop_eq_nil_of_le (by omega), tl]

theorem meas_next {i n : Nat} (h : i < n) : n - (intOf (.int .i64 ((i : Int) + 1))).toNat < n - (intOf (.int .i64 (i : Int))).toNat := by
  show n - (i + 1) < n - i; omega
/-- How tiles ends. -/
def tileE (b : Bool) : Ending := if b then .returned (.tuple #[]) else .panicked (gave 82)
set_option maxHeartbeats 4000000 in
set_option maxRecDepth 100000 in
theorem tiles_any (A : Option Addr) (c : Nat) (l : List Sg) (hn : l.length ≤ 17592186044416) (n : Int) (w : World) (hA : ArgS w A l) :
    Calls Try.prog 48 #[.slice A l.length c, .int .i64 n] w fun e w' => e = tileE (tl n 0 l) ∧ Below w.heap.size w w' := by
  have HA := Lib.hid hA
  clear hA
  have MO := fun w' => must_ok 82 w'
  have MN := fun w' => must_no 82 w'
  have B0 := Lib.hid (Below.refl w.heap.size w)
  have HN := Lib.hid hn
  clear hn
  go_enter Try.func48, Try.ntmps48
  go_wp2_with fail
  go_loopw [4, 9] (fun x y wr => ∃ (i : Nat) (a : Int), i ≤ l.length ∧ x = .int .i64 a ∧ y = .int .i64 i ∧ Hid (tl n 0 l = tl n a (l.drop i)) ∧ Hid (Below w.heap.size w wr)) (fun _ y _ => l.length - (intOf y).toNat)
  case atStart => exact ⟨0, 0, Nat.zero_le _, rfl, rfl, Lib.hid rfl, B0⟩
  case round =>
    obtain ⟨i, a, hi', rfl, rfl, T, B⟩ := hrel
    clear B0
    by_cases hlt : i < l.length
    · have i0' : (0 : Int) ≤ (i : Int) := by omega
      have i1 : (i : Int) < (l.length : Int) := by omega
      obtain ⟨b, o, rfl, hb, hc⟩ := HA.out (by omega)
      obtain ⟨s0, s1, s2, s3, s4⟩ := (hc i hlt).below B.out hb
      obtain ⟨s, hs⟩ : ∃ s, l.getD i zS = s := ⟨_, rfl⟩
      have TS := Lib.hid (fun h => tl_step (n := n) (a := a) hlt hs h)
      have TB := Lib.hid (fun h => tl_bad (n := n) (a := a) hlt hs h)
      obtain ⟨first, sl, ic, fr, up⟩ := s
      rw [hs] at s0 s1 s2 s3 s4
      simp only [] at s0 s1 s2 s3 s4
      have hl2 := HN.out
      have v1 : wrap64 ((i : Int) + 1) = (i : Int) + 1 := by unfold wrap64; omega
      have K := Lib.hid (below_new B.out (.cells #[.int .u64 first, .float .f64 sl, .float .f64 ic, .int .i64 fr, .int .i64 up] 33))
      clear hc hs hl2
      by_cases c1 : fr = a
      · subst c1
        by_cases c2 : fr < up
        · by_cases c3 : up ≤ n
          · have T2 := Lib.hid (T.out.trans (TS.out ⟨rfl, c2, c3⟩))
            clear TB TS
            go_wp2_with fail
            refine (MO _).mono ?_
            rintro e wx ⟨rfl, rfl⟩
            go_wp2_with fail
            go_roundw
            case rel => exact ⟨i + 1, up, by omega, rfl, by go_num, T2, K⟩
            case measure => rw [v1]; exact meas_next hlt
          · have T2 := Lib.hid (T.out.trans (TB.out (fun h => c3 h.2.2)))
            clear TB TS
            go_wp2_with fail
            refine (MN _).mono ?_
            rintro e wx ⟨rfl, rfl⟩
            go_wp2_with fail
            simp [bodyPost, T2.out, tileE]
            exact K.out
        · have T2 := Lib.hid (T.out.trans (TB.out (fun h => c2 h.2.1)))
          clear TB TS
          go_wp2_with fail
          refine (MN _).mono ?_
          rintro e wx ⟨rfl, rfl⟩
          go_wp2_with fail
          simp [bodyPost, T2.out, tileE]
          exact K.out
      · have T2 := Lib.hid (T.out.trans (TB.out (fun h => c1 h.1)))
        clear TB TS
        go_wp2_with fail
        refine (MN _).mono ?_
        rintro e wx ⟨rfl, rfl⟩
        go_wp2_with fail
        simp [bodyPost, T2.out, tileE]
        exact K.out
    · have T2 := Lib.hid (T.out.trans (tl_end hlt))
      obtain rfl : i = l.length := by omega
      have i1 : ¬ (l.length : Int) < (l.length : Int) := by omega
      clear hlt
      by_cases c1 : a = n
      · subst c1
        go_wp2_with fail
        refine (MO _).mono ?_
        rintro e wx ⟨rfl, rfl⟩
        go_wp2_with fail
        simp [bodyPost, results, T2.out, tileE, Try.results48]
        exact B.out
      · have c2 : (a == n) = false := by simp [c1]
        go_wp2_with fail
        refine (MN _).mono ?_
        rintro e wx ⟨rfl, rfl⟩
        go_wp2_with fail
        simp [bodyPost, T2.out, tileE, c1]
        exact B.out
/-- What the reference says of the tiling. -/
def tlR (n : Int) (l : List Sg) : Bool := decide (0 < l.length) && tl n 0 l
theorem tlR_eq {n : Int} (hn : 0 < n) (l : List Sg) : tlR n l = tl n 0 l := by
  unfold tlR
  cases l with
  | nil => simp [tl]; omega
  | cons s l => simp
set_option maxHeartbeats 4000000 in
set_option maxRecDepth 100000 in
theorem refTiles_any (A : Option Addr) (c : Nat) (l : List Sg) (hn : l.length ≤ 17592186044416) (n : Int) (h0 : 0 < n) (w : World) (hA : ArgS w A l) :
    Calls Try.prog 51 #[.slice A l.length c, .int .i64 n] w fun e w' => e = .returned (.bool (tl n 0 l)) ∧ w = w' := by
  have HA := Lib.hid hA
  clear hA
  have HN := Lib.hid hn
  have HR := Lib.hid (tlR_eq h0 l)
  have H0 := Lib.hid h0
  clear hn h0
  go_enter Try.func51, Try.ntmps51
  go_wp2_with fail
  go_loopw [5, 6] (fun x y wr => ∃ (i : Nat) (a : Int), i ≤ l.length ∧ wr = w ∧ x = .int .i64 a ∧ y = .int .i64 i ∧ Hid (tl n 0 l = tl n a (l.drop i))) (fun _ y _ => l.length - (intOf y).toNat)
  case atStart => exact ⟨0, 0, Nat.zero_le _, rfl, rfl, rfl, Lib.hid rfl⟩
  case round =>
    obtain ⟨i, a, hi', rfl, rfl, rfl, T⟩ := hrel
    by_cases hlt : i < l.length
    · have i0' : (0 : Int) ≤ (i : Int) := by omega
      have i1 : (i : Int) < (l.length : Int) := by omega
      obtain ⟨b, o, rfl, hb, hc⟩ := HA.out (by omega)
      obtain ⟨s0, s1, s2, s3, s4⟩ := hc i hlt
      obtain ⟨s, hs⟩ : ∃ s, l.getD i zS = s := ⟨_, rfl⟩
      have TS := Lib.hid (fun h => tl_step (n := n) (a := a) hlt hs h)
      have TB := Lib.hid (fun h => tl_bad (n := n) (a := a) hlt hs h)
      obtain ⟨first, sl, ic, fr, up⟩ := s
      rw [hs] at s0 s1 s2 s3 s4
      simp only [] at s0 s1 s2 s3 s4
      have hl2 := HN.out
      have v1 : wrap64 ((i : Int) + 1) = (i : Int) + 1 := by unfold wrap64; omega
      clear hc hs hl2
      by_cases c1 : fr = a
      · subst c1
        by_cases c2 : fr < up
        · by_cases c3 : up ≤ n
          · have T2 := Lib.hid (T.out.trans (TS.out ⟨rfl, c2, c3⟩))
            have c2' : ¬ up ≤ fr := by omega
            have c3' : ¬ n < up := by omega
            clear TB TS
            go_wp2_with fail
            go_roundw
            case rel => exact ⟨i + 1, up, by omega, by trivial, rfl, by go_num, T2⟩
            case measure => rw [v1]; exact meas_next hlt
          · have T2 := Lib.hid (T.out.trans (TB.out (fun h => c3 h.2.2)))
            have c2' : ¬ up ≤ fr := by omega
            have c3' : n < up := by omega
            clear TB TS
            go_wp2_with fail
            go_ret
            exact ⟨by rw [T2.out]; rfl, rfl⟩
        · have T2 := Lib.hid (T.out.trans (TB.out (fun h => c2 h.2.1)))
          have c2' : up ≤ fr := by omega
          clear TB TS
          go_wp2_with fail
          go_ret
          exact ⟨by rw [T2.out]; rfl, rfl⟩
      · have T2 := Lib.hid (T.out.trans (TB.out (fun h => c1 h.1)))
        have c1' : (fr == a) = false := by simp [c1]
        have c1'' : (fr != a) = true := by simp [c1]
        clear TB TS
        go_wp2_with fail
        go_ret
        exact ⟨by rw [T2.out]; rfl, rfl⟩
    · have T2 := Lib.hid (T.out.trans (tl_end hlt))
      obtain rfl : i = l.length := by omega
      have i1 : ¬ (l.length : Int) < (l.length : Int) := by omega
      clear hlt
      by_cases hl : 0 < l.length
      · have hl' : (0 : Int) < (l.length : Int) := by omega
        by_cases c1 : a = n
        · subst c1
          go_wp2_with fail
          go_ret
          exact ⟨by rw [T2.out]; simp, rfl⟩
        · have c2 : (a == n) = false := by simp [c1]
          go_wp2_with fail
          go_ret
          exact ⟨by rw [T2.out]; simp [c1], rfl⟩
      · have hl' : ¬ (0 : Int) < (l.length : Int) := by omega
        have R2 := Lib.hid (show tl n 0 l = false by have := HR.out; unfold tlR at this; rw [decide_eq_false hl, Bool.false_and] at this; exact this.symm)
        go_wp2_with fail
        go_ret
        exact ⟨by rw [R2.out]; rfl, rfl⟩
end Go.Proofs.Ytnccgpdniigekaa
/-
  Plain: what Check answers. The doors of levels.Check.
-/
namespace Go.Proofs.Ytnccgpdniigekaa
open Go.RowKit
set_option linter.unusedVariables false
set_option linter.unusedSimpArgs false
attribute [local go_sem high] run_store_float

/-- What is wrong with a segment over keys. -/
def segE (K : List Int) (eps : Int) (s : Sg) : Int :=
  if chk s ≠ 0 then chk s else if s.first ≠ K.getD s.fr.toNat 0 then 83 else if eps < (offI s (stretch K s.fr.toNat s.up.toNat)).1 then 85 else 0
def segsE (K : List Int) (eps : Int) : List Sg → Int
  | [] => 0
  | s :: l => if segE K eps s ≠ 0 then segE K eps s else segsE K eps l
def levE (eps : Int) : List (List Sg) → List Int → Int
  | [], K => if K.length = 1 then 0 else 84
  | l :: ll, K => if tl K.length 0 l = false then 82 else if segsE K eps l ≠ 0 then segsE K eps l else levE eps ll (firstsL l)
/-- What Check answers. -/
def chkI (K : List Int) (eps : Int) (ll : List (List Sg)) : Int :=
  if eps < 2 ∨ 64 < eps then 1 else if ¬ K.Pairwise (· < ·) then 80
  else if mhI 4294967296 eps < ll.length ∨ ¬ (ll.length = 0 ↔ K.length = 0) then 81 else if ll.length = 0 then 0 else levE eps ll K

theorem tl_up {n : Int} : ∀ {l : List Sg} {a : Int}, tl n a l = true → ∀ s ∈ l, s.up ≤ n := by
  intro l
  induction l with
  | nil => intro a _ s hs; exact absurd hs (by simp)
  | cons x l ih =>
    intro a h s hs
    rw [tl, Bool.and_eq_true, decide_eq_true_eq] at h
    rcases List.mem_cons.1 hs with rfl | hs
    · exact h.1.2.2
    · exact ih h.2 s hs
theorem segsE_step {K : List Int} {eps : Int} {l : List Sg} {j : Nat} {s : Sg} (hj : j < l.length) (hs : l.getD j zS = s) (h : segE K eps s = 0) : segsE K eps (l.drop j) = segsE K eps (l.drop (j + 1)) := by
  rw [drop_at zS l hj, hs, segsE, if_neg (by simp [h])]
theorem segsE_bad {K : List Int} {eps : Int} {l : List Sg} {j : Nat} {s : Sg} {c : Int} (hj : j < l.length) (hs : l.getD j zS = s) (h : segE K eps s = c) (hc : c ≠ 0) : segsE K eps (l.drop j) = c := by
  rw [drop_at zS l hj, hs, segsE, if_pos (by rw [h]; exact hc), h]
theorem segsE_end {K : List Int} {eps : Int} {l : List Sg} {j : Nat} (hj : ¬ j < l.length) : segsE K eps (l.drop j) = 0 := by
  rw [List.drop_eq_nil_of_le (by omega), segsE]
theorem segE_chk {K : List Int} {eps : Int} {s : Sg} {c : Int} (h : chk s = c) (hc : c ≠ 0) : segE K eps s = c := by
  unfold segE; rw [if_pos (by rw [h]; exact hc), h]
theorem segE_first {K : List Int} {eps : Int} {s : Sg} (h : chk s = 0) (hf : s.first ≠ K.getD s.fr.toNat 0) : segE K eps s = 83 := by
  unfold segE; rw [if_neg (by simp [h]), if_pos hf]
theorem segE_off {K : List Int} {eps : Int} {s : Sg} (h : chk s = 0) (hf : s.first = K.getD s.fr.toNat 0) (ho : eps < (offI s (stretch K s.fr.toNat s.up.toNat)).1) : segE K eps s = 85 := by
  unfold segE; rw [if_neg (by simp [h]), if_neg (by simp [hf]), if_pos ho]
theorem segE_ok {K : List Int} {eps : Int} {s : Sg} (h : chk s = 0) (hf : s.first = K.getD s.fr.toNat 0) (ho : ¬ eps < (offI s (stretch K s.fr.toNat s.up.toNat)).1) : segE K eps s = 0 := by
  unfold segE; rw [if_neg (by simp [h]), if_neg (by simp [hf]), if_neg ho]
theorem levE_tile {eps : Int} {ll : List (List Sg)} {K : List Int} {i : Nat} {l : List Sg} (hi : i < ll.length) (hl : ll.getD i [] = l) (h : tl K.length 0 l = false) : levE eps (ll.drop i) K = 82 := by
  rw [drop_at [] ll hi, hl, levE, if_pos h]
theorem levE_seg {eps : Int} {ll : List (List Sg)} {K : List Int} {i : Nat} {l : List Sg} {c : Int} (hi : i < ll.length) (hl : ll.getD i [] = l) (h : tl K.length 0 l = true) (hs : segsE K eps l = c) (hc : c ≠ 0) : levE eps (ll.drop i) K = c := by
  rw [drop_at [] ll hi, hl, levE, if_neg (by simp [h]), if_pos (by rw [hs]; exact hc), hs]
theorem levE_next {eps : Int} {ll : List (List Sg)} {K : List Int} {i : Nat} {l : List Sg} (hi : i < ll.length) (hl : ll.getD i [] = l) (h : tl K.length 0 l = true) (hs : segsE K eps l = 0) : levE eps (ll.drop i) K = levE eps (ll.drop (i + 1)) (firstsL l) := by
  rw [drop_at [] ll hi, hl, levE, if_neg (by simp [h]), if_neg (by simp [hs])]
theorem levE_end {eps : Int} {ll : List (List Sg)} {K : List Int} {i : Nat} (hi : ¬ i < ll.length) : levE eps (ll.drop i) K = if K.length = 1 then 0 else 84 := by
  rw [List.drop_eq_nil_of_le (by omega), levE]

/-- The frame's one deferred call. -/
def theDoor (b : Nat) : Deferred := { target := .fn (.func 46) #[.pointer (some ⟨b, 0, none⟩)], args := #[] }
theorem door_gave {b : Nat} {c x : Int} {tmps : Array Value} {w : World} {R : Ending → World → Prop} (ht : tmps[6]? = some (.pointer (some ⟨b, 0, none⟩))) (hB : Blk w b 26 #[.int .i64 x])
    (hR : R (.returned (.int .i64 c)) ((w.setCell ⟨b, 0, none⟩ (.int .i64 c)).alloc (.cells #[.int .i64 c] 78))) :
    Leaves Try.prog Try.f21 tmps R [theDoor b] (.panicking (gave c)) w := by
  refine leaves_cons (f := 46) (args := #[.pointer (some ⟨b, 0, none⟩)]) (by simp) (by simp [go_sem]) ?_
  have hc := hB.cell 0
  refine (catch_panicking b x c [] _ (by simpa using hc) (hB.free 0)).mono ?_
  rintro e u' w'' ⟨rfl, rfl, rfl⟩
  have hB2 := (hB.set 0 (.int .i64 c)).alloc (.cells #[.int .i64 c] 78)
  have hc2 := hB2.cell 0
  simp at hc2
  refine ⟨_, ?_, hR⟩
  simp [settle, results, Try.results21, go_sem, ht, hc2]
theorem door_done {b : Nat} {x : Int} {tmps : Array Value} {w : World} {R : Ending → World → Prop} (ht : tmps[6]? = some (.pointer (some ⟨b, 0, none⟩))) (hB : Blk w b 26 #[.int .i64 x])
    (hR : R (.returned (.int .i64 x)) w) :
    Leaves Try.prog Try.f21 tmps R [theDoor b] .returning w := by
  refine leaves_cons (f := 46) (args := #[.pointer (some ⟨b, 0, none⟩)]) (by simp) (by simp [go_sem]) ?_
  refine (catch_idle ⟨b, 0, none⟩ _).mono ?_
  rintro e u' w'' ⟨rfl, rfl, rfl⟩
  have hc2 := hB.cell 0
  simp at hc2
  refine ⟨_, ?_, hR⟩
  simp [settle, results, Try.results21, go_sem, ht, hc2]

end Go.Proofs.Ytnccgpdniigekaa
/-
  levels.Check.
-/
namespace Go.Proofs.Ytnccgpdniigekaa
open Go.RowKit
set_option linter.unusedVariables false
set_option linter.unusedSimpArgs false
attribute [local go_sem high] run_store_float

/-- The result's cell, and what was there before. -/
structure CW (w wr : World) : Prop where
  blk : Blk wr w.heap.size 26 #[.int .i64 0]
  bel : Below w.heap.size w wr
theorem CW.below {w wr wx : World} (h : CW w wr) (k : Below wr.heap.size wr wx) : CW w wx := ⟨h.blk.below k, below_next h.bel k⟩
theorem CW.alloc {w wr : World} (h : CW w wr) (o : Obj) : CW w (wr.alloc o) := ⟨h.blk.alloc o, below_new h.bel o⟩
theorem CW.new (w : World) : CW w (w.alloc (.cells #[.int .i64 0] 26)) := ⟨Blk.new _ _ _, below_new (Below.refl _ _) _⟩
theorem CW.drew {w wr : World} (h : CW w wr) : CW w wr.drew := ⟨h.blk.drew, h.bel.drew⟩
theorem door_ends {w wr : World} {c : Int} {tmps : Array Value} {r : Int} (ht : tmps[6]? = some (.pointer (some ⟨w.heap.size, 0, none⟩))) (H : CW w wr) (hc : r = c) :
    Leaves Try.prog Try.f21 tmps (fun e w' => e = .returned (.int .i64 r) ∧ Below w.heap.size w w') [theDoor w.heap.size] (.panicking (gave c)) wr :=
  door_gave (x := 0) ht H.blk ⟨by rw [hc], below_new (H.bel.setCell (Nat.le_refl _) _) _⟩
theorem door_okay {w wr : World} {tmps : Array Value} {r : Int} (ht : tmps[6]? = some (.pointer (some ⟨w.heap.size, 0, none⟩))) (H : CW w wr) (hc : r = 0) :
    Leaves Try.prog Try.f21 tmps (fun e w' => e = .returned (.int .i64 r) ∧ Below w.heap.size w w') [theDoor w.heap.size] .returning wr :=
  door_done (x := 0) ht H.blk ⟨by rw [hc], H.bel⟩

theorem check_bad (A : Option Addr) (n1 c : Nat) (eps : Int) (B : Option Addr) (n d : Nat) (h : eps < 2 ∨ 64 < eps) (w : World) :
    Calls Try.prog 21 #[.slice A n1 c, .int .i64 eps, .slice B n d] w fun e w' => e = .returned (.int .i64 1) ∧ Below w.heap.size w w' := by
  have hmf : ∀ (fn : Fn) (first cap : Array Value) (w : World), (Instr.makeFunc fn first cap).run Try.prog w = .ok (.func fn first cap) w := fun _ _ _ _ => rfl
  have MN := fun w' => must_no 1 w'
  by_cases h1 : eps < 2
  · have a1 : ¬ 2 ≤ eps := by omega
    clear h1 h
    go_enter_defers Try.func21, Try.ntmps21
    go_wp2_with fail
    refine (MN _).mono ?_
    rintro e wx ⟨rfl, rfl⟩
    go_wp2_with fail
    exact door_ends rfl (CW.new w) rfl
  · have a1 : 2 ≤ eps := by omega
    have a2 : ¬ eps ≤ 64 := by omega
    clear h1 h
    go_enter_defers Try.func21, Try.ntmps21
    go_wp2_with fail
    refine (MN _).mono ?_
    rintro e wx ⟨rfl, rfl⟩
    go_wp2_with fail
    exact door_ends rfl (CW.new w) rfl
theorem check_unsorted (A : Option Addr) (c : Nat) (K : List Int) (eps : Int) (h1 : 2 ≤ eps) (h2 : eps ≤ 64) (hn : K.length ≤ 17592186044416) (hu : ¬ K.Pairwise (· < ·)) (B : Option Addr) (n d : Nat) (w : World) (hA : ArgU w A K) :
    Calls Try.prog 21 #[.slice A K.length c, .int .i64 eps, .slice B n d] w fun e w' => e = .returned (.int .i64 80) ∧ Below w.heap.size w w' := by
  have hmf : ∀ (fn : Fn) (first cap : Array Value) (w : World), (Instr.makeFunc fn first cap).run Try.prog w = .ok (.func fn first cap) w := fun _ _ _ _ => rfl
  have MN := fun w' => must_no 80 w'
  have MO := fun w' => must_ok 1 w'
  have C0 := Lib.hid (CW.new w)
  have R := Rising_any A c K hn _ (hA.below (below_new (Below.refl _ _) (.cells #[.int .i64 0] 26)))
  rw [decide_eq_false hu] at R
  clear hu hA
  go_enter_defers Try.func21, Try.ntmps21
  go_wp2_with fail
  refine (MO _).mono ?_
  rintro e wx ⟨rfl, rfl⟩
  go_wp2_with fail
  refine R.mono ?_
  rintro e wx ⟨rfl, b1⟩
  have C1 := Lib.hid (C0.out.below b1)
  clear b1 C0
  go_wp2_with fail
  refine (MN _).mono ?_
  rintro e wx ⟨rfl, rfl⟩
  go_wp2_with fail
  exact door_ends rfl C1.out rfl
theorem check_high (A : Option Addr) (c : Nat) (K : List Int) (eps : Int) (h1 : 2 ≤ eps) (h2 : eps ≤ 64) (hn : K.length ≤ 17592186044416) (hu : K.Pairwise (· < ·)) (B : Option Addr) (n d : Nat) (hh : mhI 4294967296 eps < n ∨ ¬ (n = 0 ↔ K.length = 0)) (w : World) (hA : ArgU w A K) :
    Calls Try.prog 21 #[.slice A K.length c, .int .i64 eps, .slice B n d] w fun e w' => e = .returned (.int .i64 81) ∧ Below w.heap.size w w' := by
  have hmf : ∀ (fn : Fn) (first cap : Array Value) (w : World), (Instr.makeFunc fn first cap).run Try.prog w = .ok (.func fn first cap) w := fun _ _ _ _ => rfl
  have MN := fun w' => must_no 81 w'
  have MO := fun w' => must_ok 1 w'
  have MO2 := fun w' => must_ok 80 w'
  have MH := fun w' => maxHeight_any 4294967296 eps (by decide) w'
  have C0 := Lib.hid (CW.new w)
  have R := Rising_any A c K hn _ (hA.below (below_new (Below.refl _ _) (.cells #[.int .i64 0] 26)))
  rw [decide_eq_true hu] at R
  have HH := Lib.hid hh
  clear hu hA hh
  generalize mhI 4294967296 eps = m at *
  go_enter_defers Try.func21, Try.ntmps21
  go_wp2_with fail
  refine (MO _).mono ?_
  rintro e wx ⟨rfl, rfl⟩
  go_wp2_with fail
  refine R.mono ?_
  rintro e wx ⟨rfl, b1⟩
  have C1 := Lib.hid (C0.out.below b1)
  clear b1 C0
  go_wp2_with fail
  refine (MO2 _).mono ?_
  rintro e wx ⟨rfl, rfl⟩
  go_wp2_with fail
  refine (MH _).mono ?_
  rintro e wx ⟨rfl, rfl⟩
  by_cases hm : m < (n : Int)
  · have hm' : ¬ (n : Int) ≤ m := by omega
    go_wp2_with fail
    refine (MN _).mono ?_
    rintro e wx ⟨rfl, rfl⟩
    go_wp2_with fail
    exact door_ends rfl C1.out rfl
  · have hm' : (n : Int) ≤ m := by omega
    have hz := HH.out
    clear HH
    by_cases z1 : n = 0
    · have z2 : ¬ K.length = 0 := by intro hk; rcases hz with h | h; exact hm h; exact h ⟨fun _ => hk, fun _ => z1⟩
      clear hz
      have e1 : ((n : Int) == 0) = true := by simp [z1]
      have e2 : ((K.length : Int) == 0) = false := by rw [beq_eq_false_iff_ne]; omega
      have E1 := Lib.hid z1
      clear z1 z2
      go_wp2_with fail
      refine (MN _).mono ?_
      rintro e wx ⟨rfl, rfl⟩
      go_wp2_with fail
      exact door_ends rfl C1.out rfl
    · have z2 : K.length = 0 := by rcases hz with h | h; exact absurd h hm; apply Classical.byContradiction; intro hk; exact h ⟨fun h => absurd h z1, fun h => absurd h hk⟩
      clear hz
      have e1 : ((n : Int) == 0) = false := by rw [beq_eq_false_iff_ne]; omega
      have e2 : ((K.length : Int) == 0) = true := by simp [z2]
      have E1 := Lib.hid z2
      clear z1 z2
      go_wp2_with fail
      refine (MN _).mono ?_
      rintro e wx ⟨rfl, rfl⟩
      go_wp2_with fail
      exact door_ends rfl C1.out rfl
end Go.Proofs.Ytnccgpdniigekaa
/-
  levels.Check, the levels.
-/
namespace Go.Proofs.Ytnccgpdniigekaa
open Go.RowKit
set_option linter.unusedVariables false
set_option linter.unusedSimpArgs false
attribute [local go_sem high] run_store_float

/-- What the loop over the levels keeps. -/
structure OI (w : World) (eps : Int) (K : List Int) (ll : List (List Sg)) (A' : Option Addr) (c' : Nat) (K' : List Int) (i : Nat) (wr : World) : Prop where
  arg : ArgU wr A' K'
  ok : U64s K'
  len : K'.length ≤ 17592186044416
  cap : K'.length ≤ c'
  cw : CW w wr
  eq : levE eps ll K = levE eps (ll.drop i) K'
theorem firsts_ok {l : List Sg} (h : ∀ s ∈ l, SgOk s) : U64s (firstsL l) := by
  intro x hx
  unfold firstsL at hx
  obtain ⟨s, hs, rfl⟩ := List.mem_map.1 hx
  exact (h s hs).hf
theorem arg_blk_u {w : World} {g : Nat} {L : List Int} (h : Blk w g 24 (L.map (Value.int .u64)).toArray) : ArgU w (some ⟨g, 0, none⟩) L := fun _ =>
  ⟨g, 0, rfl, h.lt, fun i hi => by rw [Nat.zero_add, h.cell]; simp [List.getElem?_eq_getElem hi]⟩
theorem mem_getD {α : Type} {l : List α} {i : Nat} {z x : α} (hi : i < l.length) (h : l.getD i z = x) : x ∈ l := by
  rw [List.getD_eq_getElem?_getD, List.getElem?_eq_getElem hi] at h
  simp at h; rw [← h]; exact List.getElem_mem hi

/-- One segment in its own block, within Check. -/
structure KS (w w2 wi : World) (s : Sg) (w' : World) : Prop where
  sb : SB w2 wi.heap.size s w'
  cw : CW w w'
  bb : Below wi.heap.size wi w'
theorem KS.below {w w2 wi w' wx : World} {s : Sg} (h : KS w w2 wi s w') (k : Below w'.heap.size w' wx) : KS w w2 wi s wx := ⟨h.sb.below k, h.cw.below k, below_next h.bb k⟩
theorem KS.drew {w w2 wi w' : World} {s : Sg} (h : KS w w2 wi s w') : KS w w2 wi s w'.drew := ⟨h.sb.drew, h.cw.drew, h.bb.drew⟩
theorem KS.all {w w2 wi w' : World} {a : Int} {b c : Nat} {d e : Int} (h : KS w w2 wi ⟨a, b, c, d, e⟩ w') : KS w w2 wi ⟨a, b, c, d, e⟩ w' ∧ w'.cell? ⟨wi.heap.size, 0, none⟩ = some (.int .u64 a) ∧ w'.cell? ⟨wi.heap.size, 1, none⟩ = some (.float .f64 b) ∧ w'.cell? ⟨wi.heap.size, 2, none⟩ = some (.float .f64 c) ∧ w'.cell? ⟨wi.heap.size, 3, none⟩ = some (.int .i64 d) ∧ w'.cell? ⟨wi.heap.size, 4, none⟩ = some (.int .i64 e) :=
  ⟨h, h.sb.all.2⟩
set_option maxHeartbeats 16000000 in
set_option maxRecDepth 100000 in
theorem check_main (A : Option Addr) (c : Nat) (K : List Int) (eps : Int) (h1 : 2 ≤ eps) (h2 : eps ≤ 64) (hK : U64s K) (hn : K.length ≤ 17592186044416) (hc : K.length ≤ c) (hu : K.Pairwise (· < ·))
    (B : Option Addr) (d : Nat) (ll : List (List Sg)) (hok : ∀ l ∈ ll, ∀ s ∈ l, SgOk s) (hln : ∀ l ∈ ll, l.length ≤ 17592186044416) (hll : ll.length ≤ 17592186044416)
    (hm : (ll.length : Int) ≤ mhI 4294967296 eps) (hz1 : 0 < ll.length) (hz2 : 0 < K.length) (w : World) (hA : ArgU w A K) (hB : ArgSS w B ll) :
    Calls Try.prog 21 #[.slice A K.length c, .int .i64 eps, .slice B ll.length d] w fun e w' => e = .returned (.int .i64 (levE eps ll K)) ∧ Below w.heap.size w w' := by
  have hmf : ∀ (fn : Fn) (first cap : Array Value) (w : World), (Instr.makeFunc fn first cap).run Try.prog w = .ok (.func fn first cap) w := fun _ _ _ _ => rfl
  have MN := fun c w' => must_no c w'
  have MO := fun c w' => must_ok c w'
  have MH := fun w' => maxHeight_any 4294967296 eps (by decide) w'
  have b0 : Below w.heap.size w (w.alloc (.cells #[.int .i64 0] 26)) := below_new (Below.refl _ _) _
  have R := Rising_any A c K hn _ (hA.below b0)
  rw [decide_eq_true hu] at R
  have I0 : Hid (∀ w', CW w w' → OI w eps K ll A c K 0 w') := Lib.hid fun w' k => ⟨hA.below k.bel, hK, hn, hc, k, rfl⟩
  have C0 := Lib.hid (CW.new w)
  have HB := Lib.hid hB
  have HO := Lib.hid hok
  have HL := Lib.hid hln
  have HN := Lib.hid hll
  have e1 : ((ll.length : Int) == 0) = false := by rw [beq_eq_false_iff_ne]; omega
  have e2 : ((K.length : Int) == 0) = false := by rw [beq_eq_false_iff_ne]; omega
  clear hu hA hB hok hln hll hK hc hn b0
  generalize mhI 4294967296 eps = m at *
  go_enter_defers Try.func21, Try.ntmps21
  go_wp2_with fail
  refine (MO 1 _).mono ?_
  rintro e wx ⟨rfl, rfl⟩
  go_wp2_with fail
  refine R.mono ?_
  rintro e w1 ⟨rfl, b1⟩
  have I1 := Lib.hid (I0.out _ (C0.out.below b1))
  clear b1 C0 I0 R
  go_wp2_with fail
  refine (MO 80 _).mono ?_
  rintro e wx ⟨rfl, rfl⟩
  go_wp2_with fail
  refine (MH _).mono ?_
  rintro e wx ⟨rfl, rfl⟩
  go_wp2_with fail
  refine (MO 81 _).mono ?_
  rintro e wx ⟨rfl, rfl⟩
  go_wp2_with fail
  go_loopw [7, 44] (fun x y wr => ∃ (i : Nat) (K' : List Int) (A' : Option Addr) (c' : Nat), i ≤ ll.length ∧ x = .slice A' K'.length c' ∧ y = .int .i64 i ∧ Hid (OI w eps K ll A' c' K' i wr)) (fun _ y _ => ll.length - (intOf y).toNat)
  case atStart => exact ⟨0, K, A, c, Nat.zero_le _, rfl, rfl, I1⟩
  case round =>
    obtain ⟨i, K', A', c', hi', rfl, rfl, I⟩ := hrel
    clear I1
    by_cases hlt : i < ll.length
    · have i0' : (0 : Int) ≤ (i : Int) := by omega
      have i1 : (i : Int) < (ll.length : Int) := by omega
      obtain ⟨b, o, rfl, hb, hc⟩ := (HB.out.below I.out.cw.bel) (by omega)
      obtain ⟨A2, c2, hcell, hseg⟩ := hc i hlt
      obtain ⟨l, hl⟩ : ∃ l, ll.getD i [] = l := ⟨_, rfl⟩
      rw [hl] at hcell hseg
      have hmem := mem_getD hlt hl
      have SO := Lib.hid (HO.out l hmem)
      have SL := HL.out l hmem
      have SA := Lib.hid hseg
      have TL := tiles_any A2 c2 l SL K'.length wr hseg
      have T1 := Lib.hid (fun h => I.out.eq.trans (levE_tile (eps := eps) hlt hl h))
      have T2 := Lib.hid (fun cc h1 h2 h3 => I.out.eq.trans (levE_seg (eps := eps) (c := cc) hlt hl h1 h2 h3))
      have T3 := Lib.hid (fun h1 h2 => I.out.eq.trans (levE_next (eps := eps) hlt hl h1 h2))
      clear hc hl hmem hseg
      by_cases ht : tl K'.length 0 l = true
      · rw [ht] at TL
        have HT := Lib.hid ht
        clear ht T1
        go_wp2_with fail
        refine TL.mono ?_
        rintro e w2 ⟨rfl, b2⟩
        simp only [tileE, if_true]
        have C2 := Lib.hid (I.out.cw.below b2)
        have SA2 := Lib.hid (SA.out.below b2)
        have AR2 := Lib.hid (I.out.arg.below b2)
        have OK' := Lib.hid I.out.ok
        have UP := Lib.hid (tl_up HT.out)
        have LN' := Lib.hid (And.intro I.out.len I.out.cap)
        have LV := Lib.hid SL
        clear b2 TL hcell SA hb SL
        go_wp2_with fail
        go_loopw [54] (fun x wx => ∃ j : Nat, j ≤ l.length ∧ x = .int .i64 j ∧ Hid (segsE K' eps l = segsE K' eps (l.drop j) ∧ CW w wx ∧ Below w2.heap.size w2 wx)) (fun x _ => l.length - (intOf x).toNat)
        case atStart => exact ⟨0, Nat.zero_le _, rfl, Lib.hid ⟨rfl, C2.out, Below.refl _ _⟩⟩
        case round =>
          obtain ⟨wi, rfl⟩ : ∃ wi : World, wi = wr := ⟨_, rfl⟩
          obtain ⟨j, hj', rfl, J⟩ := hrel
          by_cases hjl : j < l.length
          · have j0 : (0 : Int) ≤ (j : Int) := by omega
            have j1 : (j : Int) < (l.length : Int) := by omega
            obtain ⟨b5, o5, rfl, hb5, hc5⟩ := (SA2.out.below J.out.2.2) (by omega)
            obtain ⟨s0, s1, s2, s3, s4⟩ := hc5 j hjl
            obtain ⟨s, hs⟩ : ∃ s, l.getD j zS = s := ⟨_, rfl⟩
            have hsm := mem_getD hjl hs
            have SK := SO.out s hsm
            have UPs := UP.out s hsm
            have Q1 := Lib.hid (fun cc h1 h2 => J.out.1.trans (segsE_bad (K := K') (eps := eps) (c := cc) hjl hs h1 h2))
            have Q2 := Lib.hid (fun h => J.out.1.trans (segsE_step (K := K') (eps := eps) hjl hs h))
            have hl2 := LV.out
            have v1 : wrap64 ((j : Int) + 1) = (j : Int) + 1 := by unfold wrap64; omega
            have S0 := Lib.hid (show SB w2 wi.heap.size s (wi.alloc (.cells s.c 33)) from ⟨s.blk wi, below_new J.out.2.2 _⟩)
            have C3 := Lib.hid (J.out.2.1.alloc (.cells s.c 33))
            have CK := fun w' => check_any s SK w'
            rw [hs] at s0 s1 s2 s3 s4
            clear hc5 hs hsm hl2
            by_cases hk : chk s = 0
            · rw [hk] at CK
              have HR := chk_right.1 hk
              obtain ⟨p, hp⟩ := Int.eq_ofNat_of_zero_le HR.fr
              obtain ⟨t, ht⟩ := Int.eq_ofNat_of_zero_le (show 0 ≤ s.up by have := HR.fr; have := HR.hto; omega)
              have hpt : p < t := by have := HR.hto; omega
              have htl : t ≤ K'.length := by omega
              obtain ⟨first, sl, ic, fr, up⟩ := s
              simp only [] at hp ht s0 s1 s2 s3 s4
              subst hp ht
              have hc' := LN'.out.2
              have E83 := Lib.hid (fun h => T2.out 83 HT.out (Q1.out 83 (segE_first hk h) (by decide)) (by decide))
              have E85 := Lib.hid (fun h h' => T2.out 85 HT.out (Q1.out 85 (segE_off hk h h') (by decide)) (by decide))
              have E0 := Lib.hid (fun h h' => Q2.out (segE_ok hk h h'))
              have SKH := Lib.hid SK
              obtain ⟨b6, o6, rfl, hb6, hc6⟩ := (AR2.out.below J.out.2.2) (by omega)
              have hkc : K'[p]'(by omega) = K'.getD p 0 := by rw [List.getD_eq_getElem?_getD, List.getElem?_eq_getElem (by omega)]; rfl
              have KC : ∀ w', Below wi.heap.size wi w' → w'.cell? ⟨b6, o6 + p, none⟩ = some (.int .u64 (K'.getD p 0)) := fun w' k => (k.cell (p := ⟨b6, _, none⟩) hb6).trans ((hc6 p (by omega)).trans (by rw [hkc]))
              have KH := Lib.hid KC
              have AH := Lib.hid (AR2.out.below J.out.2.2)
              have BA := Lib.hid (below_new (Below.refl _ wi) (.cells (Sg.c ⟨first, sl, ic, (p : Int), (t : Int)⟩) 33))
              simp only [Int.toNat_natCast] at E83 E85 E0
              obtain ⟨k0, hk0⟩ : ∃ k0, K'.getD p 0 = k0 := ⟨_, rfl⟩
              rw [hk0] at KH E83 E85 E0
              unfold Sg.v at CK
              unfold Sg.c at S0 C3 BA
              simp only [] at CK S0 C3 BA
              clear hk HR SK hc6 hkc KC Q1 Q2 hk0
              go_wp2_with fail
              refine (CK _).mono ?_
              rintro e w3 ⟨rfl, b3⟩
              have S1 := Lib.hid (S0.out.below b3)
              have C4 := Lib.hid (C3.out.below b3)
              have BB := Lib.hid (below_next BA.out b3)
              clear b3 CK S0 C3
              obtain ⟨_, c0, c1, c2, c3, c4⟩ := S1.out.all
              have ck := KH.out _ BB.out
              go_wp2_with fail
              refine (MO 0 _).mono ?_
              rintro e wx ⟨rfl, rfl⟩
              go_wp2_with fail
              have p0 : (0 : Int) ≤ (p : Int) := by omega
              have p1 : (p : Int) < (K'.length : Int) := by omega
              have p1' : p < K'.length := by omega
              have S2 := Lib.hid S1.out.drew
              have C5 := Lib.hid C4.out.drew
              have BB2 := Lib.hid BB.out.drew
              by_cases hf : first = k0
              · have f1 : (first == k0) = true := by simp [hf]
                go_still_tail 8, (by kernel_rfl)
                change wpList _ _ _ _ _ w3.drew
                generalize w3.drew = wd at *
                go_wp2_with fail
                refine (MO 83 _).mono ?_
                rintro e wx ⟨rfl, rfl⟩
                go_wp2_with fail
                clear c0 c1 c2 c3 c4
                obtain ⟨_, c0, c1, c2, c3, c4⟩ := S2.out.all
                have O1 := Lib.hid hf
                have OFF := fun w' hA' => off_any ⟨first, sl, ic, (p : Int), (t : Int)⟩ SKH.out (some ⟨b6, o6 + p, none⟩) (c' - p) (stretch K' p t) (OK'.out.stretch _ _) (by rw [stretch_len htl]; have := LN'.out.1; omega) w' hA'
                rw [stretch_len htl] at OFF
                have OF := fun w' (k : Below wi.heap.size wi w') => OFF w' ((AH.out.below k).stretch p t)
                have E85' := Lib.hid (E85.out hf)
                have E0' := Lib.hid (E0.out hf)
                obtain ⟨r1, hr1⟩ : ∃ r1, (offI ⟨first, sl, ic, (p : Int), (t : Int)⟩ (stretch K' p t)).1 = r1 := ⟨_, rfl⟩
                obtain ⟨r2, hr2⟩ : ∃ r2, (offI ⟨first, sl, ic, (p : Int), (t : Int)⟩ (stretch K' p t)).2 = r2 := ⟨_, rfl⟩
                rw [hr1] at OF E85' E0'
                rw [hr2] at OF
                unfold Sg.v at OF
                simp only [] at OF
                have q1 : (p : Int) ≤ (t : Int) := by omega
                have q2 : (t : Int) ≤ (c' : Int) := by omega
                have q3 : p < c' := by omega
                have q4 : (p : Int) < (c' : Int) := by omega
                have q5 : t ≤ c' := by omega
                have q6 : p ≤ t := by omega
                have q7 : ¬ c' = p := by omega
                clear OFF hr1 hr2 hf f1
                have KS2 := Lib.hid (KS.mk S2.out C5.out BB2.out)
                have OFH := Lib.hid OF
                clear OF ck
                go_region_held3 (fun w' => KS w w2 wi ⟨first, sl, ic, (p : Int), (t : Int)⟩ w' ∧ w'.cell? ⟨wi.heap.size, 0, none⟩ = some (.int .u64 first) ∧ w'.cell? ⟨wi.heap.size, 1, none⟩ = some (.float .f64 sl) ∧ w'.cell? ⟨wi.heap.size, 2, none⟩ = some (.float .f64 ic) ∧ w'.cell? ⟨wi.heap.size, 3, none⟩ = some (.int .i64 (p : Int)) ∧ w'.cell? ⟨wi.heap.size, 4, none⟩ = some (.int .i64 (t : Int)))
                  (first | exact KS2.out.drew.all | exact HB9.out.all | go_keep)
                  (first | (go_at_call 50; (with_reducible refine (OFH.out _ (‹KS _ _ _ _ _ ∧ _›).1.bb).mono ?_); rintro e5 w5 ⟨rfl, b5⟩; have HB9 := Lib.hid ((‹KS _ _ _ _ _ ∧ _›).1.below b5)))
                have C6 := Lib.hid HB9.out.cw
                have J9 := Lib.hid (below_next J.out.2.2 HB9.out.bb)
                by_cases ho : r1 ≤ eps
                · have EN := Lib.hid (E0'.out (by omega))
                  go_wp2_with fail
                  refine (MO 85 _).mono ?_
                  rintro e wx ⟨rfl, rfl⟩
                  go_wp2_with fail
                  go_roundw
                  case rel => exact ⟨j + 1, by omega, by go_num, Lib.hid ⟨EN.out, C6.out, J9.out⟩⟩
                  case measure => rw [v1]; exact meas_next hjl
                · have EE := Lib.hid (E85'.out (by omega))
                  go_wp2_with fail
                  refine (MN 85 _).mono ?_
                  rintro e wx ⟨rfl, rfl⟩
                  go_wp2_with fail
                  exact door_ends rfl C6.out EE.out
              · have f1 : (first == k0) = false := by simp [hf]
                have EE := Lib.hid (E83.out hf)
                clear hf
                go_still_tail 8, (by kernel_rfl)
                change wpList _ _ _ _ _ w3.drew
                generalize w3.drew = wd at *
                go_wp2_with fail
                refine (MN 83 _).mono ?_
                rintro e wx ⟨rfl, rfl⟩
                go_wp2_with fail
                exact door_ends rfl C5.out EE.out
            · obtain ⟨ck, hck⟩ : ∃ ck, chk s = ck := ⟨_, rfl⟩
              have EE := Lib.hid (T2.out ck HT.out (Q1.out ck (segE_chk hck (hck ▸ hk)) (hck ▸ hk)) (hck ▸ hk))
              rw [hck] at CK hk
              have z0 : (ck == 0) = false := by rw [beq_eq_false_iff_ne]; exact hk
              obtain ⟨first, sl, ic, fr, up⟩ := s
              simp only [] at s0 s1 s2 s3 s4
              unfold Sg.v at CK
              unfold Sg.c at S0 C3
              simp only [] at CK S0 C3
              clear hck hk Q1 Q2 SK
              go_wp2_with fail
              refine (CK _).mono ?_
              rintro e w3 ⟨rfl, b3⟩
              have C4 := Lib.hid (C3.out.below b3)
              clear b3
              go_wp2_with fail
              refine (MN ck _).mono ?_
              rintro e wx ⟨rfl, rfl⟩
              go_wp2_with fail
              exact door_ends rfl C4.out EE.out
          · have SE := Lib.hid (J.out.1.trans (segsE_end hjl))
            obtain rfl : j = l.length := by omega
            have j1 : ¬ (l.length : Int) < (l.length : Int) := by omega
            have SA3 := SA2.out.below J.out.2.2
            have FA := firsts_any A2 c2 l LV.out _ SA3
            have NX := Lib.hid (T3.out HT.out SE.out)
            have hN2 := HN.out
            have v1 : wrap64 ((i : Int) + 1) = (i : Int) + 1 := by unfold wrap64; omega
            clear hjl SA3 hN2
            go_wp2_with fail
            refine FA.mono ?_
            rintro e w4 ⟨g, rfl, hg, hB4, b4⟩
            have I4 : Hid (OI w eps K ll (some ⟨g, 0, none⟩) (firstsL l).length (firstsL l) (i + 1) w4) := Lib.hid ⟨arg_blk_u hB4, firsts_ok SO.out, by rw [firsts_len]; exact LV.out, Nat.le_refl _, J.out.2.1.below b4, NX.out⟩
            clear hB4 b4 FA
            go_wp2_with fail
            go_roundw
            case rel => exact ⟨i + 1, firstsL l, some ⟨g, 0, none⟩, (firstsL l).length, by omega, by rw [firsts_len], by go_num, I4⟩
            case measure => rw [v1]; exact meas_next hlt
      · have hf : tl K'.length 0 l = false := by simpa using ht
        rw [hf] at TL
        have E := Lib.hid (T1.out hf)
        clear ht hf T2 T3 T1
        go_wp2_with fail
        refine TL.mono ?_
        rintro e wx ⟨rfl, b1⟩
        have C1 := Lib.hid (I.out.cw.below b1)
        clear b1
        simp only [tileE]
        go_wp2_with fail
        exact door_ends rfl C1.out E.out
    · have E := Lib.hid (I.out.eq.trans (levE_end hlt))
      obtain rfl : i = ll.length := by omega
      have i1 : ¬ (ll.length : Int) < (ll.length : Int) := by omega
      have hbc := I.out.cw.blk.cell 0
      have hbf := I.out.cw.blk.free 0
      clear hlt
      by_cases hk : K'.length = 1
      · have E2 := Lib.hid (E.out.trans (if_pos hk))
        have k1 : ((K'.length : Int) == 1) = true := by rw [hk]; rfl
        clear hk E
        go_wp2_with fail
        refine (MO 84 _).mono ?_
        rintro e wx ⟨rfl, rfl⟩
        go_wp2_with fail
        exact door_okay rfl ⟨I.out.cw.blk.set 0 (.int .i64 0), I.out.cw.bel.setCell (Nat.le_refl _) _⟩ E2.out
      · have E2 := Lib.hid (E.out.trans (if_neg hk))
        have k1 : ((K'.length : Int) == 1) = false := by rw [beq_eq_false_iff_ne]; omega
        clear hk E
        go_wp2_with fail
        refine (MN 84 _).mono ?_
        rintro e wx ⟨rfl, rfl⟩
        go_wp2_with fail
        exact door_ends rfl I.out.cw E2.out
end Go.Proofs.Ytnccgpdniigekaa
/-
  levels.Check, whole.
-/
namespace Go.Proofs.Ytnccgpdniigekaa
open Go.RowKit
set_option linter.unusedVariables false
set_option linter.unusedSimpArgs false
attribute [local go_sem high] run_store_float

set_option maxRecDepth 100000 in
theorem check_empty (A : Option Addr) (c : Nat) (eps : Int) (h1 : 2 ≤ eps) (h2 : eps ≤ 64) (B : Option Addr) (d : Nat) (hm : 0 ≤ mhI 4294967296 eps) (w : World) :
    Calls Try.prog 21 #[.slice A 0 c, .int .i64 eps, .slice B 0 d] w fun e w' => e = .returned (.int .i64 0) ∧ Below w.heap.size w w' := by
  have hmf : ∀ (fn : Fn) (first cap : Array Value) (w : World), (Instr.makeFunc fn first cap).run Try.prog w = .ok (.func fn first cap) w := fun _ _ _ _ => rfl
  have MO := fun c w' => must_ok c w'
  have MH := fun w' => maxHeight_any 4294967296 eps (by decide) w'
  have C0 := Lib.hid (CW.new w)
  have R := Rising_any A c [] (by simp) (w.alloc (.cells #[.int .i64 0] 26)) (fun h => absurd h (by simp))
  rw [decide_eq_true List.Pairwise.nil] at R
  simp only [List.length_nil] at R
  generalize mhI 4294967296 eps = m at *
  go_enter_defers Try.func21, Try.ntmps21
  go_wp2_with fail
  refine (MO 1 _).mono ?_
  rintro e wx ⟨rfl, rfl⟩
  go_wp2_with fail
  refine R.mono ?_
  rintro e w1 ⟨rfl, b1⟩
  have C1 := Lib.hid (C0.out.below b1)
  clear b1 C0 R
  go_wp2_with fail
  refine (MO 80 _).mono ?_
  rintro e wx ⟨rfl, rfl⟩
  go_wp2_with fail
  refine (MH _).mono ?_
  rintro e wx ⟨rfl, rfl⟩
  go_wp2_with fail
  refine (MO 81 _).mono ?_
  rintro e wx ⟨rfl, rfl⟩
  go_wp2_with fail
  go_loopw [44] (fun x wr => x = .int .i64 0 ∧ Hid (CW w wr)) (fun _ _ => 0)
  case atStart => exact ⟨rfl, C1⟩
  case round =>
    obtain ⟨rfl, C2⟩ := hrel
    have hbc := C2.out.blk.cell 0
    have hbf := C2.out.blk.free 0
    go_wp2_with fail
    refine (MO 84 _).mono ?_
    rintro e wx ⟨rfl, rfl⟩
    go_wp2_with fail
    exact door_okay rfl ⟨C2.out.blk.set 0 (.int .i64 0), C2.out.bel.setCell (Nat.le_refl _) _⟩ rfl
theorem mh_pos {eps : Int} (h1 : 2 ≤ eps) (h2 : eps ≤ 64) : 0 ≤ mhI 4294967296 eps := by
  unfold mhI; split <;> omega
/-- What may be asked of Check. -/
structure AskC (w : World) (A : Option Addr) (c : Nat) (K : List Int) (B : Option Addr) (ll : List (List Sg)) : Prop where
  ok : U64s K
  len : K.length ≤ 17592186044416
  cap : K.length ≤ c
  arg : ArgU w A K
  segs : ∀ l ∈ ll, ∀ s ∈ l, SgOk s
  lens : ∀ l ∈ ll, l.length ≤ 17592186044416
  count : ll.length ≤ 17592186044416
  args : ArgSS w B ll
theorem check_lv (A : Option Addr) (c : Nat) (K : List Int) (eps : Int) (B : Option Addr) (d : Nat) (ll : List (List Sg)) (w : World) (h : AskC w A c K B ll) :
    Calls Try.prog 21 #[.slice A K.length c, .int .i64 eps, .slice B ll.length d] w fun e w' => e = .returned (.int .i64 (chkI K eps ll)) ∧ Below w.heap.size w w' := by
  unfold chkI
  by_cases h1 : eps < 2 ∨ 64 < eps
  · rw [if_pos h1]; exact check_bad A _ c eps B _ d h1 w
  rw [if_neg h1]
  by_cases h2 : K.Pairwise (· < ·)
  · rw [if_neg (by simp [h2])]
    by_cases h3 : mhI 4294967296 eps < ll.length ∨ ¬ (ll.length = 0 ↔ K.length = 0)
    · rw [if_pos h3]; exact check_high A c K eps (by omega) (by omega) h.len h2 B _ d h3 w h.arg
    · rw [if_neg h3]
      by_cases h4 : ll.length = 0
      · rw [if_pos h4, h4]
        have h5 : K.length = 0 := by
          apply Classical.byContradiction; intro hk
          exact h3 (Or.inr fun hh => hk (hh.1 h4))
        rw [h5]
        exact check_empty A c eps (by omega) (by omega) B d (mh_pos (by omega) (by omega)) w
      · rw [if_neg h4]
        have h5 : 0 < K.length := by
          apply Classical.byContradiction; intro hk
          exact h3 (Or.inr fun hh => h4 (hh.2 (by omega)))
        exact check_main A c K eps (by omega) (by omega) h.ok h.len h.cap h2 B d ll h.segs h.lens h.count (by omega) (by omega) h5 w h.arg h.args
  · rw [if_pos h2]; exact check_unsorted A c K eps (by omega) (by omega) h.len h2 B _ d w h.arg
end Go.Proofs.Ytnccgpdniigekaa
