/-
  The laws: the bound, of levels whoever made them; taken apart.
-/
import Derived.Test.YtnccgpdniigekaaQLvNear
import Derived.Test.YtnccgpdniigekaaQLvArgs
namespace Go.Proofs.Ytnccgpdniigekaa
open Go.RowKit
set_option linter.unusedVariables false
set_option linter.unusedSimpArgs false
attribute [local go_sem high] run_store_float

theorem LvArg.ask {w : World} {B : Option Addr} {d : Nat} {ll : List (List Sg)} (h : LvArg w B d ll) {w' : World} (k : Below w.heap.size w w') {A : Option Addr} {c : Nat} {K : List Int} (hK : U64s K) (hn : K.length ≤ 17592186044416) (hc : K.length ≤ c) (hA : ArgU w' A K) : AskC w' A c K B ll :=
  ⟨hK, hn, hc, hA, h.segs, h.lens, h.count, h.arg.below k⟩
theorem code_ne {n : Int} (h : n ≠ 0) : (n != 0) = true := by simpa using h

set_option maxHeartbeats 4000000 in
set_option maxRecDepth 100000 in
theorem lvNear_walk (A : Option Addr) (c : Nat) (K : List Int) (hK : U64s K) (hn : K.length ≤ 17592186044416) (hc : K.length ≤ c) (eps : Int) (B : Option Addr) (d : Nat) (ll : List (List Sg)) (q : Int) (hq : u64ok q) (w : World) (hA : ArgU w A K) (hB : LvArg w B d ll) :
    Calls Try.prog 8 #[.slice A K.length c, .int .i64 eps, .slice B ll.length d, .int .u64 q] w fun e w' => e = .returned (.bool true) ∧ Below w.heap.size w w' := by
  have SH := shown8 w
  have RC := fun w' (k : Below w.heap.size w w') => rcheck_lv A c K eps B d ll w' (hB.ask k hK hn hc (hA.below k))
  have NE := Lib.hid (fun (h : chkI K eps ll = 0) w' (k : Below w.heap.size w w') => near8_any A c K hn eps B d ll q (near_chk h hq hK hB.segs) (chk_zero h).1 (chk_zero h).2.1 hq hB.lens hB.count w' (hA.below k) (hB.arg.below k))
  obtain ⟨r, hr⟩ : ∃ r, chkI K eps ll = r := ⟨_, rfl⟩
  rw [hr] at RC NE
  clear hA hB hr hK hn hc hq
  by_cases h0 : r = 0
  · have NE' := NE.out h0
    subst h0
    clear NE
    go_enter Try.func8, Try.ntmps8
    go_wp2_with fail
    refine SH.mono ?_
    rintro e w1 ⟨rfl, b1⟩
    have B1 := Lib.hid b1
    clear b1
    go_wp2_with fail
    refine (RC _ B1.out).mono ?_
    rintro e w2 ⟨rfl, b2⟩
    have B2 := Lib.hid (below_next B1.out b2)
    clear b2
    go_wp2_with fail
    refine (NE' _ B2.out).mono ?_
    rintro e w3 ⟨rfl, b3⟩
    have B3 := Lib.hid (below_next B2.out b3)
    clear b3
    go_wp2_with fail
    go_ret
    exact ⟨rfl, B3.out⟩
  · have z := code_ne h0
    clear NE h0
    go_enter Try.func8, Try.ntmps8
    go_wp2_with fail
    refine SH.mono ?_
    rintro e w1 ⟨rfl, b1⟩
    have B1 := Lib.hid b1
    clear b1
    go_wp2_with fail
    refine (RC _ B1.out).mono ?_
    rintro e w2 ⟨rfl, b2⟩
    have B2 := Lib.hid (below_next B1.out b2)
    clear b2
    go_wp2_with fail
    go_ret
    exact ⟨rfl, B2.out⟩

/-- What stands above level 1 is levels over its keys. -/
theorem chk_apart {K : List Int} {eps : Int} {ll : List (List Sg)} (h : chkI K eps ll = 0) (hU : U64s K) (hs : ∀ l ∈ ll, ∀ s ∈ l, SgOk s) (h2 : 2 ≤ ll.length) : chkI (firstsL (ll.getD 0 [])) eps (ll.drop 1) = 0 := by
  obtain ⟨e1, e2, h3, h4, h5, h6⟩ := chk_zero h
  match ll, h2 with
  | l :: m :: rest, _ =>
    have hl := h6 (by simp)
    obtain ⟨l1, l2, l3⟩ := levE_cons hl
    have L : Lev K eps l := ⟨l1, l2, hs l (by simp), hU, h3⟩
    have hk : 0 < K.length := by
      apply Classical.byContradiction; intro hh
      have := h5.2 (by omega)
      simp at this
    have hpos : 0 < l.length := tl_pos (by omega) l1
    show chkI (firstsL l) eps (m :: rest) = 0
    unfold chkI
    simp only [List.length_cons] at h4 ⊢
    rw [if_neg (by omega), if_neg (by simp [L.up']), if_neg (by
      rw [firsts_len]
      rintro (g | g)
      · omega
      · exact g ⟨fun _ => by omega, fun _ => by omega⟩), if_neg (by omega)]
    exact l3
theorem ArgSS.tail {w : World} {b o : Nat} {ll : List (List Sg)} (h : ArgSS w (some ⟨b, o, none⟩) ll) (h1 : 0 < ll.length) : ArgSS w (some ⟨b, o + 1, none⟩) (ll.drop 1) := fun hn => by
  obtain ⟨b', o', hA, hb, hc⟩ := h h1
  injection hA with hA
  injection hA with e1 e2
  subst e1 e2
  refine ⟨b, o + 1, rfl, hb, fun i hi => ?_⟩
  rw [List.length_drop] at hi
  obtain ⟨A', c', g1, g2⟩ := hc (i + 1) (by omega)
  have e : (ll.drop 1).getD i [] = ll.getD (i + 1) [] := by
    rw [List.getD_eq_getElem?_getD, List.getD_eq_getElem?_getD, List.getElem?_drop, Nat.add_comm]
  rw [e, show o + 1 + i = o + (i + 1) by omega]
  exact ⟨A', c', g1, g2⟩
theorem U64s.firsts {l : List Sg} (h : ∀ s ∈ l, SgOk s) : U64s (firstsL l) := firsts_ok h

set_option maxHeartbeats 4000000 in
set_option maxRecDepth 100000 in
theorem lvApart_walk (A : Option Addr) (c : Nat) (K : List Int) (hK : U64s K) (hn : K.length ≤ 17592186044416) (hc : K.length ≤ c) (eps : Int) (B : Option Addr) (d : Nat) (ll : List (List Sg)) (w : World) (hA : ArgU w A K) (hB : LvArg w B d ll) :
    Calls Try.prog 10 #[.slice A K.length c, .int .i64 eps, .slice B ll.length d] w fun e w' => e = .returned (.bool true) ∧ Below w.heap.size w w' := by
  have SH := shown8 w
  by_cases h2 : ll.length < 2
  · have h2' : (ll.length : Int) < 2 := by omega
    clear hA hB hK hn hc h2
    go_enter Try.func10, Try.ntmps10
    go_wp2_with fail
    refine SH.mono ?_
    rintro e w1 ⟨rfl, b1⟩
    have B1 := Lib.hid b1
    clear b1
    go_wp2_with fail
    go_ret
    exact ⟨rfl, B1.out⟩
  · have h2' : ¬ (ll.length : Int) < 2 := by omega
    have RC := fun w' (k : Below w.heap.size w w') => rcheck_lv A c K eps B d ll w' (hB.ask k hK hn hc (hA.below k))
    have CC := fun w' (k : Below w.heap.size w w') => check_lv A c K eps B d ll w' (hB.ask k hK hn hc (hA.below k))
    have CH := Lib.hid (fun h => chk_apart (K := K) (eps := eps) (ll := ll) h hK hB.segs (by omega))
    obtain ⟨b, o, rfl, hb, hcells⟩ := hB.arg (by omega)
    obtain ⟨A2, c2, hcell0, hseg0⟩ := hcells 0 (by omega)
    have X := Lib.hid (show ∀ w', Below w.heap.size w w' → w'.cell? ⟨b, o, none⟩ = some (.slice A2 (ll.getD 0 []).length c2) ∧ ArgS w' A2 (ll.getD 0 []) from fun w' k => ⟨(k.cell (p := ⟨b, _, none⟩) hb).trans hcell0, hseg0.below k⟩)
    have hm : ll.getD 0 [] ∈ ll := mem_getD (by omega) rfl
    have SO := Lib.hid (hB.segs _ hm)
    have SL := Lib.hid (hB.lens _ hm)
    have TA := Lib.hid (show ∀ w', Below w.heap.size w w' → ArgSS w' (some ⟨b, o + 1, none⟩) (ll.drop 1) from fun w' k => (hB.arg.tail (by omega)).below k)
    have TS := Lib.hid (show (∀ l ∈ ll.drop 1, ∀ s ∈ l, SgOk s) ∧ (∀ l ∈ ll.drop 1, l.length ≤ 17592186044416) from ⟨fun l hl => hB.segs l (List.mem_of_mem_drop hl), fun l hl => hB.lens l (List.mem_of_mem_drop hl)⟩)
    have CT := hB.count
    have CP := hB.cap
    have LD : (ll.drop 1).length = ll.length - 1 := List.length_drop ..
    obtain ⟨r, hr⟩ : ∃ r, chkI K eps ll = r := ⟨_, rfl⟩
    rw [hr] at RC CC CH
    clear hA hB hr hK hn hc hm hcells hcell0 hseg0 hb
    by_cases h0 : r = 0
    · have CH' := CH.out h0
      subst h0
      obtain ⟨l, hl⟩ : ∃ l, ll.getD 0 [] = l := ⟨_, rfl⟩
      rw [hl] at X SO SL CH'
      obtain ⟨lt, hlt⟩ : ∃ lt, ll.drop 1 = lt := ⟨_, rfl⟩
      rw [hlt] at TA TS LD CH'
      have CN : ∀ A' c' w', (firstsL l).length ≤ c' → Below w.heap.size w w' → ArgU w' A' (firstsL l) → Calls Try.prog 21 #[.slice A' (firstsL l).length c', .int .i64 eps, .slice (some ⟨b, o + 1, none⟩) (ll.length - 1) (d - 1)] w' fun e w2 => e = .returned (.int .i64 0) ∧ Below w'.heap.size w' w2 := fun A' c' w' hcc k ha => by
        have := check_lv A' c' (firstsL l) eps (some ⟨b, o + 1, none⟩) (d - 1) lt w' ⟨firsts_ok SO.out, by rw [firsts_len]; exact SL.out, hcc, ha, TS.out.1, TS.out.2, by rw [LD]; omega, TA.out _ k⟩
        rwa [CH', LD] at this
      clear CH CH' hl hlt TA TS LD
      go_enter Try.func10, Try.ntmps10
      go_wp2_with fail
      refine SH.mono ?_
      rintro e w1 ⟨rfl, b1⟩
      have B1 := Lib.hid b1
      clear b1
      go_wp2_with fail
      refine (RC _ B1.out).mono ?_
      rintro e w2 ⟨rfl, b2⟩
      have B2 := Lib.hid (below_next B1.out b2)
      clear b2
      obtain ⟨xa, xs⟩ := X.out _ B2.out
      have RF := refFirsts_any A2 c2 l SL.out w2 xs
      have p0 : (0 : Int) < (ll.length : Int) := by omega
      clear xs
      go_wp2_with fail
      refine RF.mono ?_
      rintro e w3 ⟨v, rfl, F3⟩
      obtain ⟨A3, c3, rfl, hA3, hc3⟩ := F3.arg
      have B3 := Lib.hid (And.intro (below_next B2.out F3.bel) (And.intro hA3 hc3))
      clear F3 hA3 hc3 RF xa
      go_wp2_with fail
      refine (CC _ B3.out.1).mono ?_
      rintro e w4 ⟨rfl, b4⟩
      have B4 := Lib.hid (And.intro (below_next B3.out.1 b4) (B3.out.2.1.below b4))
      clear b4
      have q1 : (1 : Int) ≤ (ll.length : Int) := by omega
      have q2 : (ll.length : Int) ≤ (d : Int) := by omega
      have q3 : (1 : Nat) < d := by omega
      have q4 : (1 : Int) < (d : Int) := by omega
      go_wp2_with fail
      refine (CN _ _ _ B3.out.2.2 B4.out.1 B4.out.2).mono ?_
      rintro e w5 ⟨rfl, b5⟩
      have B5 := Lib.hid (below_next B4.out.1 b5)
      clear b5
      go_wp2_with fail
      go_ret
      exact ⟨rfl, B5.out⟩
    · have z := code_ne h0
      clear CH h0 TA TS LD X SO SL
      go_enter Try.func10, Try.ntmps10
      go_wp2_with fail
      refine SH.mono ?_
      rintro e w1 ⟨rfl, b1⟩
      have B1 := Lib.hid b1
      clear b1
      go_wp2_with fail
      refine (RC _ B1.out).mono ?_
      rintro e w2 ⟨rfl, b2⟩
      have B2 := Lib.hid (below_next B1.out b2)
      clear b2
      go_wp2_with fail
      go_ret
      exact ⟨rfl, B2.out⟩
end Go.Proofs.Ytnccgpdniigekaa
