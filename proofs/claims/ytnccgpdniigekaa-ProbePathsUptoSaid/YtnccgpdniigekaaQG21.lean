/-
  Plain: where the stretches end; a fit and a list of ends in memory.
-/
import Derived.Test.YtnccgpdniigekaaQG9
import Derived.WalkMore
import Derived.Test.YtnccgpdniigekaaQG10
namespace Go.Proofs.Ytnccgpdniigekaa
open Go.RowKit
set_option linter.unusedVariables false
set_option linter.unusedSimpArgs false

theorem Fit.add_len' {F : Fit} {e key : Int} : (F.add e key).2.keys.length ≤ F.keys.length + 1 := by
  unfold Fit.add
  split
  · simp
  · split
    · simp
    · simp
/-- The first key is always taken. -/
theorem Fit.add_zero {e : Int} (he : 0 ≤ e) (k : Int) : (Fit.zero.add e k).1 = (true, 0) := by
  obtain ⟨t, h⟩ := Fit.add_first FitOk.zero he (key := k) rfl (by simp [Fit.zero]; omega) (by rfl)
  rw [h]
/-- The ends so far, and the fit that is under way. -/
def cutS (e : Int) (L : List Int) : Nat → List Nat × Fit
  | 0 => ([], Fit.zero)
  | i + 1 => if ((cutS e L i).2.add e (L.getD i 0)).1.1 = true then ((cutS e L i).1, ((cutS e L i).2.add e (L.getD i 0)).2) else ((cutS e L i).1 ++ [i], (Fit.zero.add e (L.getD i 0)).2)
/-- Where the stretches end. -/
def endsL (e : Int) (L : List Int) : List Nat := if L.length = 0 then [] else (cutS e L L.length).1 ++ [L.length]
theorem cutS_one {e : Int} (he : 0 ≤ e) (L : List Int) : cutS e L 1 = ([], (Fit.zero.add e (L.getD 0 0)).2) := by
  rw [cutS, cutS]
  simp only []
  rw [if_pos (by rw [Fit.add_zero he])]
theorem cutS_len {e : Int} (he : 0 ≤ e) (L : List Int) : ∀ i, (cutS e L (i + 1)).1.length ≤ i
  | 0 => by rw [cutS_one he]; simp
  | i + 1 => by
    have ih := cutS_len he L i
    rw [cutS]
    split
    · simp only []; omega
    · simp only [List.length_append, List.length_cons, List.length_nil]; omega
theorem cutS_keys {e : Int} (L : List Int) : ∀ i, (cutS e L i).2.keys.length ≤ i
  | 0 => by simp [cutS, Fit.zero]
  | i + 1 => by
    have ih := cutS_keys (e := e) L i
    rw [cutS]
    split
    · have := Fit.add_len' (F := (cutS e L i).2) (e := e) (key := L.getD i 0); simp only []; omega
    · have h := Fit.add_len' (F := Fit.zero) (e := e) (key := L.getD i 0); have h0 : Fit.zero.keys.length = 0 := rfl; rw [h0] at h; simp only []; omega
/-- A stretch begins at j. -/
def Start (e : Int) (L : List Int) (j : Nat) (outs : List Nat) : Prop := cutS e L (j + 1) = (outs, (Fit.zero.add e (L.getD j 0)).2)
theorem Start.zero {e : Int} (he : 0 ≤ e) (L : List Int) : Start e L 0 [] := cutS_one he L
theorem Start.next {e : Int} {L : List Int} {i : Nat} {outs : List Nat} {F : Fit} (h : cutS e L i = (outs, F)) (hr : (F.add e (L.getD i 0)).1.1 = false) : Start e L i (outs ++ [i]) := by
  rw [Start, cutS, h]
  simp only []
  rw [if_neg (by rw [hr]; simp)]
theorem cutS_go {e : Int} {L : List Int} {i : Nat} {outs : List Nat} {F : Fit} (h : cutS e L i = (outs, F)) (hr : (F.add e (L.getD i 0)).1.1 = true) : cutS e L (i + 1) = (outs, (F.add e (L.getD i 0)).2) := by
  rw [cutS, h]
  simp only []
  rw [if_pos hr]
theorem endsL_of {e : Int} {L : List Int} {outs : List Nat} {F : Fit} (h0 : 0 < L.length) (h : cutS e L L.length = (outs, F)) : endsL e L = outs ++ [L.length] := by
  rw [endsL, if_neg (by omega), h]
/-- Numbers in memory. -/
def Ints (w : World) (v : Value) (l : List Nat) : Prop := w.ownsRow 0 3 1 v l.length (l.map fun (n : Nat) => Value.int .i64 (n : Int))
theorem infoI : (Try.prog.info? 3).map (fun i => (i.zero, i.size, i.bytes)) = some (some (.int .i64 0), 1, 8) := by kernel_rfl
/-- A fit and the ends so far, all made since w0. -/
def EM (w0 : World) (b : Nat) (e : Int) (F : Fit) (v : Value) (l : List Nat) (w : World) : Prop :=
  ∃ S, FitO w b e F S ∧ Ints w v l ∧ (∀ g, v.ownBlock = some g → ¬ S g ∧ w0.heap.size ≤ g) ∧ (∀ k, S k → w0.heap.size ≤ k) ∧ Below w0.heap.size w0 w
section
variable {w0 w w' : World} {b : Nat} {e : Int} {F F' : Fit} {v : Value} {l : List Nat}
theorem EM.bel (h : EM w0 b e F v l w) : Below w0.heap.size w0 w := by obtain ⟨_, _, _, _, _, h⟩ := h; exact h
theorem EM.ints (h : EM w0 b e F v l w) : Ints w v l ∧ (∀ g, v.ownBlock = some g → w0.heap.size ≤ g) := by obtain ⟨_, _, h1, h2, _⟩ := h; exact ⟨h1, fun g hg => (h2 g hg).2⟩
theorem EM.below (h : EM w0 b e F v l w) (k : Below w.heap.size w w') : EM w0 b e F v l w' := by
  obtain ⟨S, h1, h2, h3, h4, h5⟩ := h
  exact ⟨S, h1.below k, own_chg h2 (Chg.of_below k) (fun _ _ h => h), h3, h4, below_next h5 k⟩
theorem EM.add (h : EM w0 b e F v l w) {key c : Int} {t : Bool} (hp : F.add e key = ((t, c), F')) (hk : u64ok key) (big : F.keys.length < 17592186044416) :
    Calls Try.prog 81 #[.pointer (some ⟨b, 0, none⟩), .int .u64 key] w fun e' w' => e' = .returned (.tuple #[.bool t, .int .i64 c]) ∧ EM w0 b e F' v l w' := by
  obtain ⟨S, h1, h2, h3, h4, h5⟩ := h
  refine (hull_AddO key hk big h1).mono ?_
  rintro e' w' ⟨rfl, S', f1, f2, f3⟩
  rw [hp] at f1 ⊢
  refine ⟨rfl, S', f1, own_chg h2 f2 (fun g hg => (h3 g hg).1), fun g hg => ⟨fun hs => ?_, (h3 g hg).2⟩, fun k hk => ?_, below_chg h5 f2 (fun k _ hk => h4 k hk) h5.size⟩
  · rcases f3 g hs with m | m
    · exact (h3 g hg).1 m
    · have := own_lt h2 hg; omega
  · rcases f3 k hk with m | m
    · exact h4 k m
    · have := h5.size; omega
/-- Another fit in its place. -/
theorem EM.fresh (h : EM w0 b e F v l w) {b' : Nat} {S' : Nat → Prop} (k : Below w.heap.size w w') (H : FitO w' b' e F' S') (hS : ∀ i, S' i → w.heap.size ≤ i) : EM w0 b' e F' v l w' := by
  obtain ⟨S, h1, h2, h3, h4, h5⟩ := h
  exact ⟨S', H, own_chg h2 (Chg.of_below k) (fun _ _ h => h), fun g hg => ⟨fun hs => by have := own_lt h2 hg; have := hS g hs; omega, (h3 g hg).2⟩, fun i hi => Nat.le_trans h5.size (hS i hi), below_next h5 k⟩
/-- The ends with one more. -/
theorem EM.grown (h : EM w0 b e F v l w) {o : Obj} {w1 : World} {g cap i : Nat} (hown : w1.ownsRow 0 3 1 (.slice (some ⟨g, 0, none⟩) (l.length + 1) cap) (l.length + 1) (l.map (fun (n : Nat) => Value.int .i64 (n : Int)) ++ [.int .i64 (i : Int)])) (hgr : (w.alloc o).grownBy w1 v.ownBlock) (hat : v.ownBlock = some g ∨ g = w.heap.size + 1) :
    EM w0 b e F (.slice (some ⟨g, 0, none⟩) (l.length + 1) cap) (l ++ [i]) w1 := by
  obtain ⟨S, h1, h2, h3, h4, h5⟩ := h
  have C : Chg (fun k => v.ownBlock = some k) w w1 := ((Chg.refl _ w).alloc o).grown hgr (fun k hk _ => hk)
  have hlt := h1.lt
  refine ⟨S, h1.chg C (fun j hj hv => (h3 j hv).1 hj), ?_, fun g' hg' => ?_, h4, below_chg h5 C (fun k _ hk => (h3 k hk).2) h5.size⟩
  · unfold Ints
    simpa using hown
  · simp only [Value.ownBlock, Option.some.injEq] at hg'
    subst hg'
    rcases hat with m | m
    · exact h3 _ m
    · exact ⟨fun hs => by have := hlt _ hs; omega, by have := h5.size; omega⟩
end
end Go.Proofs.Ytnccgpdniigekaa
/-
  cut.Ends.
-/
namespace Go.Proofs.Ytnccgpdniigekaa
open Go.RowKit
set_option linter.unusedVariables false
set_option linter.unusedSimpArgs false

theorem ends_bad (eps : Int) (h : eps < 2 ∨ 64 < eps) (A : Option Addr) (n c : Nat) (w : World) :
    Calls Try.prog 66 #[.slice A n c, .int .i64 eps] w fun e w' => e = .returned (.tuple #[.slice none 0 0, .int .i64 1]) ∧ w = w' := by
  have N1 := fun w => hull_New_bad eps h w
  go_enter Try.func66, Try.ntmps66
  go_wp2
  go_step3
  go_wp2_with fail
  refine (N1 _).mono ?_
  rintro e w1 ⟨rfl, rfl⟩
  go_wp2_with fail
  try rw [Exit.noGoto_ret]
  go_ret2
  exact ⟨rfl, rfl⟩
theorem ends_unsorted (eps : Int) (h1 : 2 ≤ eps) (h2 : eps ≤ 64) (A : Option Addr) (c : Nat) (L : List Int) (hn : L.length ≤ 17592186044416) (hu : ¬ L.Pairwise (· < ·)) (w : World) (hA : ArgU w A L) :
    Calls Try.prog 66 #[.slice A L.length c, .int .i64 eps] w fun e w' => e = .returned (.tuple #[.slice none 0 0, .int .i64 60]) ∧ Below w.heap.size w w' := by
  have N1 := hull_New eps h1 h2 w
  have R := fun (w' : World) (k : Below w.heap.size w w') => Rising_any A c L hn w' (hA.below k)
  rw [decide_eq_false hu] at R
  have HR := Lib.hid R
  clear R h1 h2 hu hn hA
  go_enter Try.func66, Try.ntmps66
  go_wp2
  go_step3
  go_wp2_with fail
  refine N1.mono ?_
  rintro e w1 ⟨rfl, b1, F1⟩
  have R1 := HR.out _ b1
  have HB := Lib.hid b1
  clear N1 HR b1 F1
  go_wp2_with fail
  refine R1.mono ?_
  rintro e w2 ⟨rfl, b2⟩
  go_wp2_with fail
  try rw [Exit.noGoto_ret]
  go_ret2
  exact ⟨rfl, below_next HB.out b2⟩
/-- Where the outer loop stands. -/
def OutAt (w0 : World) (e : Int) (L : List Int) (j b : Nat) (v : Value) (w : World) : Prop :=
  (j < L.length ∧ ∃ outs, Start e L j outs ∧ EM w0 b e Fit.zero v outs w) ∨ (j = L.length ∧ ∃ F, EM w0 b e F v (endsL e L) w)
def OutR (w0 : World) (e : Int) (L : List Int) (g : Nat) (x6 x8 x9 : Value) (w : World) : Prop :=
  ∃ j b, j + g = L.length ∧ x6 = .pointer (some ⟨b, 0, none⟩) ∧ x9 = .int .i64 (j : Int) ∧ Hid (OutAt w0 e L j b x8 w)
/-- Where the inner loop stands. -/
def InAt (w0 : World) (e : Int) (L : List Int) (j i b : Nat) (v : Value) (outs : List Nat) (w : World) : Prop :=
  ∃ F, ((i = j ∧ F = Fit.zero ∧ Start e L j outs) ∨ (j < i ∧ cutS e L i = (outs, F))) ∧ EM w0 b e F v outs w
def InR (w0 : World) (e : Int) (L : List Int) (j b : Nat) (v : Value) (outs : List Nat) (g : Nat) (x6 x8 x9 x10 : Value) (w : World) : Prop :=
  ∃ i : Nat, i + g = L.length ∧ j ≤ i ∧ x6 = .pointer (some ⟨b, 0, none⟩) ∧ x8 = v ∧ x9 = .int .i64 (j : Int) ∧ x10 = .int .i64 (i : Int) ∧ Hid (InAt w0 e L j i b v outs w)
set_option maxHeartbeats 4000000 in
set_option maxRecDepth 100000 in
theorem ends_good (eps : Int) (h1 : 2 ≤ eps) (h2 : eps ≤ 64) (A : Option Addr) (c : Nat) (L : List Int) (hL : U64s L) (hn : L.length ≤ 17592186044416) (hu : L.Pairwise (· < ·)) (w : World) (hA : ArgU w A L) :
    Calls Try.prog 66 #[.slice A L.length c, .int .i64 eps] w fun e w' => ∃ v, e = .returned (.tuple #[v, .int .i64 0]) ∧ Ints w' v (endsL (eps - 1) L) ∧ (∀ g, v.ownBlock = some g → w.heap.size ≤ g) ∧ Below w.heap.size w w' := by
  have N1 := fun w => hull_New eps h1 h2 w
  have R := fun (w' : World) (k : Below w.heap.size w w') => Rising_any A c L hn w' (hA.below k)
  rw [decide_eq_true hu] at R
  have HR := Lib.hid R
  have HU := Lib.hid hL
  have HA := Lib.hid hA
  have HN := Lib.hid hn
  have HE := Lib.hid (And.intro h1 h2)
  obtain ⟨i0, hi, hz0, hz1, hz2⟩ := info_parts infoI
  have HN1 := Lib.hid N1
  clear R h1 h2 hu hn hA hL N1
  go_enter Try.func66, Try.ntmps66
  go_wp2
  go_step3
  go_wp2_with fail
  refine (HN1.out w).mono ?_
  rintro e w1 ⟨rfl, b1, F1⟩
  have R1 := HR.out _ b1
  have HB := Lib.hid (And.intro b1 F1)
  clear HR b1 F1
  go_wp2_with fail
  refine R1.mono ?_
  rintro e w2 ⟨rfl, b2⟩
  have ST : Hid (OutAt w (eps - 1) L 0 w.heap.size (.slice none 0 0) w2) := Lib.hid (by
    have E0 : EM w w.heap.size (eps - 1) Fit.zero (.slice none 0 0) [] w2 := ⟨_, HB.out.2.below b2, World.ownsRow_nil _ _ _ _, fun g hg => by simp [Value.ownBlock] at hg, fun k hk => by omega, below_next HB.out.1 b2⟩
    by_cases h0 : L.length = 0
    · exact .inr ⟨h0.symm, Fit.zero, by rw [endsL, if_pos h0]; exact E0⟩
    · exact .inl ⟨by omega, [], Start.zero (by have := HE.out; omega) L, E0⟩)
  clear R1 HB b2
  go_wp2_with fail
  go_step3
  go_wp2_with fail
  go_loopg [6, 8, 9] L.length (fun g x6 x8 x9 wx => OutR w (eps - 1) L g x6 x8 x9 wx)
  case atStart => exact ⟨0, w.heap.size, by omega, rfl, rfl, ST.out⟩
  case round =>
    obtain ⟨j, b, hj, rfl, rfl, HO⟩ := hrel
    have hN := HN.out
    by_cases hlt : j < L.length
    · rcases HO.out with ⟨_, outs, hst, hem⟩ | ⟨hjj, _⟩
      · have HS := Lib.hid (And.intro hst hem)
        have HJ := Lib.hid hj
        obtain ⟨go, hgo⟩ : ∃ go, gk = go := ⟨_, rfl⟩
        have HG := Lib.hid hgo
        obtain ⟨wo, hwo⟩ : ∃ wo : World, wo = wr := ⟨_, rfl⟩
        have HIL : Hid (outs.length + 1 ≤ L.length) := Lib.hid (by
          have := cutS_len (e := eps - 1) (by have := HE.out; omega) L j
          rw [Start] at hst; rw [hst] at this; have k : outs.length ≤ j := this; omega)
        have IN : Hid (InAt w (eps - 1) L j j b u8 outs wr) := Lib.hid ⟨Fit.zero, .inl ⟨rfl, rfl, hst⟩, hem⟩
        subst hwo
        have HLT := Lib.hid hlt
        have HJN := Lib.hid (show j + go = L.length by omega)
        clear HO hst hem HS hj hgo
        go_wp2_with fail
        go_loopg [6, 8, 9, 10] (L.length - j) (fun g x6 x8 x9 x10 wx => InR w (eps - 1) L j b u8 outs g x6 x8 x9 x10 wx)
        case atStart => exact ⟨j, by omega, by omega, rfl, rfl, rfl, rfl, IN.out⟩
        case round =>
          obtain ⟨i, hi2, hji, rfl, rfl, rfl, rfl, HI⟩ := hrel
          have ho : outs.length + 1 ≤ L.length := HIL.out
          by_cases hli : i < L.length
          · obtain ⟨F, hcase, hem⟩ := HI.out
            obtain ⟨bb, o, rfl, hbl, hc0⟩ := HA.out.at hli
            have hku := HU.out.at hli
            obtain ⟨key, hkey⟩ : ∃ key, L[i] = key := ⟨_, rfl⟩
            have hkd : L.getD i 0 = key := by rw [List.getD_eq_getElem?_getD, List.getElem?_eq_getElem hli, Option.getD_some, hkey]
            rw [hkey] at hc0 hku
            obtain ⟨⟨⟨t, cc⟩, F'⟩, hadd⟩ : ∃ r, F.add (eps - 1) key = r := ⟨_, rfl⟩
            have hFl : F.keys.length ≤ i := by
              rcases hcase with ⟨_, rfl, _⟩ | ⟨_, hc⟩
              · simp [Fit.zero]
              · have := cutS_keys (e := eps - 1) L i; rw [hc] at this; exact this
            have AD := hem.add hadd hku (by omega)
            have hc : wr.cell? ⟨bb, o + i, none⟩ = some (.int .u64 key) := (hem.bel.cell (p := ⟨bb, _, none⟩) hbl).trans hc0
            have HLI := Lib.hid (And.intro hi2 hji)
            have HC := Lib.hid (And.intro hcase (And.intro hadd hkd))
            clear hcase hem hkey hkd hFl hc0 hadd HI
            go_wp2_with fail
            refine AD.mono ?_
            rintro e5 w5 ⟨rfl, M5⟩
            have HM5 := Lib.hid M5
            clear AD hc M5
            cases t with
            | true =>
              have NX : Hid (InAt w (eps - 1) L j (i + 1) b u8 outs w5) := Lib.hid (by
                obtain ⟨hcase, hadd, hkd⟩ := HC.out
                refine ⟨F', .inr ⟨by omega, ?_⟩, HM5.out⟩
                rcases hcase with ⟨rfl, rfl, hs⟩ | ⟨_, hs⟩
                · rw [Start, hkd, hadd] at hs; exact hs
                · have := cutS_go hs (by rw [hkd, hadd]); rw [hkd, hadd] at this; exact this)
              clear hi2 hji
              go_wp2_with fail
              go_roundg (L.length - (i + 1))
              case rel => exact ⟨i + 1, by have := HLI.out; omega, by have := HLI.out; omega, rfl, rfl, rfl, by go_num, NX.out⟩
              case measure => have := HLI.out; omega
            | false =>
              have NX : Hid (j < i ∧ Start (eps - 1) L i (outs ++ [i])) := Lib.hid (by
                obtain ⟨hcase, hadd, hkd⟩ := HC.out
                rcases hcase with ⟨_, rfl, _⟩ | ⟨hji, hs⟩
                · have := Fit.add_zero (e := eps - 1) (by have := HE.out; omega) key; rw [hadd] at this; simp at this
                · exact ⟨hji, Start.next hs (by rw [hkd, hadd])⟩)
              clear hi2 hji
              have NW := HN1.out w5
              go_wp2_with fail
              refine NW.mono ?_
              rintro e6 w6 ⟨rfl, b6, F6⟩
              have HEM := Lib.hid (HM5.out.fresh b6 F6 (fun i hi => by omega))
              have HO1 : Hid ((w6.alloc (.cells #[.int .i64 (i : Int)] 3)).ownsRow 0 3 1 u8 outs.length (outs.map (fun (n : Nat) => Value.int .i64 (n : Int)))) := Lib.hid (own_chg HEM.out.ints.1 ((Chg.refl (fun _ => False) w6).alloc _) (fun _ _ h => h))
              have HFO : Hid (∀ u ∈ ([.int .i64 (i : Int)] : List Value), u.oneCell' = true) := Lib.hid (by intro u hu; simp at hu; rcases hu with rfl; rfl)
              clear NW b6 F6
              go_wp2_with (at_builtin; go_loud (refine wpList_append_lies _ rfl (.tmp 53) (.tmp 55) 71 (by rfl) 0 3 i0 _ 1 8 Try.underlying71 hi hz0 hz1 hz2 rfl (by omega) u8 outs.length (outs.map (fun (n : Nat) => Value.int .i64 (n : Int))) (by rfl) HO1.out ⟨w6.heap.size, 0, none⟩ 1 1 [.int .i64 (i : Int)] (by rfl) (by rfl) (World.news_of_block (Blk.new w6 3 #[.int .i64 (i : Int)])) HFO.out (by omega) (by unfold maxLen; omega) (by omega) (Nat.zero_le _) (w6.heap.size + 1) (by simp) ?_; intro gn capn wn hown hgr hat hltn; have HG2 := Lib.hid (HEM.out.grown hown hgr hat); clear hown hgr hat hltn))
              go_roundg (L.length - i)
              case rel => exact ⟨i, _, by omega, rfl, rfl, Lib.hid (.inl ⟨hli, _, NX.out.2, HG2.out⟩)⟩
              case measure => have := NX.out.1; have := HLI.out; have := HJN.out; have := HG.out; omega
          · have hil : i = L.length := by omega
            subst hil
            have FN : Hid (∃ F, EM w b (eps - 1) F u8 outs wr ∧ endsL (eps - 1) L = outs ++ [L.length]) := Lib.hid (by
              obtain ⟨F, hcase, hem⟩ := HI.out
              rcases hcase with ⟨h, _⟩ | ⟨_, hs⟩
              · have := HLT.out; omega
              · exact ⟨F, hem, endsL_of (by have := HLT.out; omega) hs⟩)
            obtain ⟨F, hem, hends⟩ := FN.out
            have HEM := Lib.hid hem
            have HEN := Lib.hid hends
            have HO1 : Hid ((wr.alloc (.cells #[.int .i64 (L.length : Int)] 3)).ownsRow 0 3 1 u8 outs.length (outs.map (fun (n : Nat) => Value.int .i64 (n : Int)))) := Lib.hid (own_chg HEM.out.ints.1 ((Chg.refl (fun _ => False) wr).alloc _) (fun _ _ h => h))
            have HFO : Hid (∀ u ∈ ([.int .i64 (L.length : Int)] : List Value), u.oneCell' = true) := Lib.hid (by intro u hu; simp at hu; rcases hu with rfl; rfl)
            clear hem hends FN HI hji hi2
            go_wp2_with (at_builtin; go_loud (refine wpList_append_lies _ rfl (.tmp 58) (.tmp 61) 71 (by rfl) 0 3 i0 _ 1 8 Try.underlying71 hi hz0 hz1 hz2 rfl (by omega) u8 outs.length (outs.map (fun (n : Nat) => Value.int .i64 (n : Int))) (by rfl) HO1.out ⟨wr.heap.size, 0, none⟩ 1 1 [.int .i64 (L.length : Int)] (by rfl) (by rfl) (World.news_of_block (Blk.new wr 3 #[.int .i64 (L.length : Int)])) HFO.out (by omega) (by unfold maxLen; omega) (by omega) (Nat.zero_le _) (wr.heap.size + 1) (by simp) ?_; intro gn capn wn hown hgr hat hltn; have HG2 := Lib.hid (HEM.out.grown hown hgr hat); clear hown hgr hat hltn))
            go_roundg 0
            case rel => exact ⟨L.length, _, by omega, rfl, rfl, Lib.hid (.inr ⟨rfl, F, by rw [HEN.out]; exact HG2.out⟩)⟩
            case measure => have := HLT.out; have := HJN.out; have := HG.out; omega
      · omega
    · have hjl : j = L.length := by omega
      have HF : Hid (∃ F, EM w b (eps - 1) F u8 (endsL (eps - 1) L) wr) := Lib.hid (by
        rcases HO.out with ⟨h, _⟩ | ⟨_, F, h⟩
        · omega
        · exact ⟨F, h⟩)
      clear hjl hj
      go_wp2_with fail
      try rw [Exit.noGoto_ret]
      go_ret2
      obtain ⟨F, h⟩ := HF.out
      exact ⟨_, rfl, h.ints.1, h.ints.2, h.bel⟩
end Go.Proofs.Ytnccgpdniigekaa
/-
  The statements' helpers: same, right; the examples at the head.
-/
namespace Go.Proofs.Ytnccgpdniigekaa
open Go.RowKit
set_option linter.unusedVariables false
set_option linter.unusedSimpArgs false

/-- The slice reads as these numbers. -/
def ArgN (w : World) (A : Option Addr) (l : List Nat) : Prop := 0 < l.length → ∃ b o, A = some ⟨b, o, none⟩ ∧ b < w.heap.size ∧ ∀ i (h : i < l.length), w.cell? ⟨b, o + i, none⟩ = some (.int .i64 (l[i] : Int))
theorem ArgN.below {w w' : World} {A : Option Addr} {l : List Nat} (h : ArgN w A l) (k : Below w.heap.size w w') : ArgN w' A l := fun hn => by
  obtain ⟨b, o, hA, hb, hc⟩ := h hn
  exact ⟨b, o, hA, Nat.lt_of_lt_of_le hb k.size, fun i hi => (k.cell (p := ⟨b, _, none⟩) hb).trans (hc i hi)⟩
theorem ArgN.at {w : World} {A : Option Addr} {l : List Nat} (h : ArgN w A l) {i : Nat} (hi : i < l.length) : ∃ b o, A = some ⟨b, o, none⟩ ∧ b < w.heap.size ∧ w.cell? ⟨b, o + i, none⟩ = some (.int .i64 (l[i] : Int)) := by
  obtain ⟨b, o, hA, hb, hc⟩ := h (by omega)
  exact ⟨b, o, hA, hb, hc i hi⟩
theorem Ints.arg {w : World} {v : Value} {l : List Nat} (h : Ints w v l) : ∃ A c, v = .slice A l.length c ∧ ArgN w A l ∧ l.length ≤ 17592186044416 ∨ l.length > 17592186044416 := by
  rcases Nat.lt_or_ge 17592186044416 l.length with k | k
  · exact ⟨none, 0, .inr k⟩
  · rcases h.2 with ⟨hv, h0⟩ | ⟨g, cap, cur, hv, hr⟩
    · exact ⟨none, 0, .inl ⟨by rw [hv, h0], fun h => by omega, k⟩⟩
    · have hlt : g < w.heap.size := Blk.lt (t := 3) hr.2.1
      refine ⟨_, _, .inl ⟨hv, fun _ => ⟨g, 0, rfl, hlt, fun i hi => ?_⟩, k⟩⟩
      have hc := World.ownsRow.cells h (g := g) (by rw [hv]; rfl) i (.int .i64 (l[i] : Int)) (by simp [List.getElem?_eq_getElem hi])
      rw [Addr.add_mid] at hc
      exact hc
theorem endsL_len {e : Int} (he : 0 ≤ e) (L : List Int) : (endsL e L).length ≤ L.length := by
  unfold endsL
  split
  · simp
  · have := cutS_len he L (L.length - 1)
    rw [show L.length - 1 + 1 = L.length from by omega] at this
    simp only [List.length_append, List.length_cons, List.length_nil]; omega
theorem ends_arg (eps : Int) (h1 : 2 ≤ eps) (h2 : eps ≤ 64) (A : Option Addr) (c : Nat) (L : List Int) (hL : U64s L) (hn : L.length ≤ 17592186044416) (hu : L.Pairwise (· < ·)) (w : World) (hA : ArgU w A L) :
    Calls Try.prog 66 #[.slice A L.length c, .int .i64 eps] w fun e w' => ∃ A' c', e = .returned (.tuple #[.slice A' (endsL (eps - 1) L).length c', .int .i64 0]) ∧ ArgN w' A' (endsL (eps - 1) L) ∧ Below w.heap.size w w' := by
  refine (ends_good eps h1 h2 A c L hL hn hu w hA).mono ?_
  rintro e w' ⟨v, rfl, hi, _, hb⟩
  have hl := endsL_len (e := eps - 1) (by omega) L
  obtain ⟨A', c', h | h⟩ := hi.arg
  · obtain ⟨rfl, ha, _⟩ := h
    exact ⟨A', c', rfl, ha, hb⟩
  · omega
theorem take_eq_step' {l m : List Nat} {i : Nat} (h1 : i < l.length) (h2 : i < m.length) (h : l.take i = m.take i) (he : l[i] = m[i]) : l.take (i + 1) = m.take (i + 1) := by
  rw [List.take_succ_eq_append_getElem h1, List.take_succ_eq_append_getElem h2, h, he]
/-- Whether keys rise, and an eps may be. -/
def Good (eps : Int) (L : List Int) : Prop := 2 ≤ eps ∧ eps ≤ 64 ∧ L.Pairwise (· < ·)
end Go.Proofs.Ytnccgpdniigekaa
/-
  'shown' of the statements about cuts is true.
-/
namespace Go.Proofs.Ytnccgpdniigekaa
open Go.RowKit
set_option linter.unusedVariables false
set_option linter.unusedSimpArgs false

theorem ArgU.of_blk {w : World} {g : Nat} {t : TypeId} {L : List Int} (h : Blk w g t (L.map (Value.int .u64)).toArray) : ArgU w (some ⟨g, 0, none⟩) L := fun _ => ⟨g, 0, rfl, h.lt, fun i hi => by
  rw [h.cell]; simp [List.getElem?_eq_getElem hi]⟩
theorem ArgN.of_blk {w : World} {g : Nat} {t : TypeId} {l : List Nat} (h : Blk w g t (l.map (fun (n : Nat) => Value.int .i64 (n : Int))).toArray) : ArgN w (some ⟨g, 0, none⟩) l := fun _ => ⟨g, 0, rfl, h.lt, fun i hi => by
  rw [h.cell]; simp [List.getElem?_eq_getElem hi]⟩
theorem exA : endsL (2 - 1) [10, 20, 30, 40, 50] = [5] := by decide +kernel
theorem exB : endsL (2 - 1) [0, 1, 2, 3, 100, 101, 102] = [4, 7] := by decide +kernel
theorem exN : endsL (64 - 1) [] = [] := rfl
end Go.Proofs.Ytnccgpdniigekaa
/-
  Plain: keys moved by a number. A list of numbers that grows in memory.
-/
namespace Go.Proofs.Ytnccgpdniigekaa
open Go.RowKit
set_option linter.unusedVariables false
set_option linter.unusedSimpArgs false

theorem cutS_mv (e far : Int) (L : List Int) : ∀ i, i ≤ L.length → cutS e (L.map (· + far)) i = ((cutS e L i).1, (cutS e L i).2.mv far)
  | 0, _ => rfl
  | i + 1, h => by
    rw [cutS, cutS, cutS_mv e far L i (by omega), getD_mv (by omega)]
    simp only [Fit.add_mv]
    have hz := Fit.add_mv Fit.zero e far (L.getD i 0)
    rw [zero_mv] at hz
    rw [hz]
    split <;> rfl
theorem endsL_mv (e far : Int) (L : List Int) : endsL e (L.map (· + far)) = endsL e L := by
  unfold endsL
  rw [List.length_map, cutS_mv e far L L.length (Nat.le_refl _)]
/-- Numbers of 64 bits that the call itself gathers. -/
def Us (w0 : World) (v : Value) (l : List Int) (w : World) : Prop := w.ownsRow 0 24 1 v l.length (l.map (Value.int .u64)) ∧ (∀ g, v.ownBlock = some g → w0.heap.size ≤ g) ∧ Below w0.heap.size w0 w
section
variable {w0 w w' : World} {v : Value} {l : List Int}
theorem Us.below (h : Us w0 v l w) (k : Below w.heap.size w w') : Us w0 v l w' := ⟨own_chg h.1 (Chg.of_below k) (fun _ _ h => h), h.2.1, below_next h.2.2 k⟩
theorem Us.grown (h : Us w0 v l w) {o : Obj} {w1 : World} {g cap : Nat} {x : Int} (hown : w1.ownsRow 0 24 1 (.slice (some ⟨g, 0, none⟩) (l.length + 1) cap) (l.length + 1) (l.map (Value.int .u64) ++ [.int .u64 x])) (hgr : (w.alloc o).grownBy w1 v.ownBlock) (hat : v.ownBlock = some g ∨ g = w.heap.size + 1) :
    Us w0 (.slice (some ⟨g, 0, none⟩) (l.length + 1) cap) (l ++ [x]) w1 := by
  have C : Chg (fun k => v.ownBlock = some k) w w1 := ((Chg.refl _ w).alloc o).grown hgr (fun k hk _ => hk)
  refine ⟨by simpa using hown, fun g' hg' => ?_, below_chg h.2.2 C (fun k _ hk => h.2.1 k hk) h.2.2.size⟩
  simp only [Value.ownBlock, Option.some.injEq] at hg'
  subst hg'
  rcases hat with m | m
  · exact h.2.1 _ m
  · have := h.2.2.size; omega
theorem Us.grown' (h : Us w0 v l w) {n : Nat} (hn : l.length = n) {o : Obj} {w1 : World} {g cap : Nat} {x : Int} (hown : w1.ownsRow 0 24 1 (.slice (some ⟨g, 0, none⟩) (n + 1) cap) (n + 1) (l.map (Value.int .u64) ++ [.int .u64 x])) (hgr : (w.alloc o).grownBy w1 v.ownBlock) (hat : v.ownBlock = some g ∨ g = w.heap.size + 1) :
    Us w0 (.slice (some ⟨g, 0, none⟩) (n + 1) cap) (l ++ [x]) w1 := by subst hn; exact h.grown hown hgr hat
theorem Us.arg (h : Us w0 v l w) : ∃ A c, v = .slice A l.length c ∧ ArgU w A l := by
  rcases h.1.2 with ⟨hv, h0⟩ | ⟨g, cap, cur, hv, hr⟩
  · exact ⟨none, 0, by rw [hv, h0], fun h => by omega⟩
  · have hlt : g < w.heap.size := Blk.lt (t := 24) hr.2.1
    refine ⟨_, _, hv, fun _ => ⟨g, 0, rfl, hlt, fun i hi => ?_⟩⟩
    have hc := World.ownsRow.cells h.1 (g := g) (by rw [hv]; rfl) i (.int .u64 l[i]) (by simp [List.getElem?_eq_getElem hi])
    rw [Addr.add_mid] at hc
    exact hc
end
/-- By how much keys may be moved, taken to what there is room for. -/
def farIn (last far : Int) : Int := if 18446744073709551615 - last < 18446744073709551615 then far % (18446744073709551615 - last + 1) else far
theorem farIn_ok {last far : Int} (hl : u64ok last) (hf : u64ok far) : 0 ≤ farIn last far ∧ farIn last far + last ≤ 18446744073709551615 := by
  unfold u64ok at hl hf
  unfold farIn
  split
  · have h1 := Int.emod_nonneg far (show 18446744073709551615 - last + 1 ≠ 0 by omega)
    have h2 := Int.emod_lt_of_pos far (show 0 < 18446744073709551615 - last + 1 by omega)
    omega
  · omega
theorem up_last {L : List Int} (hu : L.Pairwise (· < ·)) {i : Nat} (hi : i < L.length) : L[i] ≤ L[L.length - 1]'(by omega) := by
  by_cases h : i = L.length - 1
  · subst h; exact Int.le_refl _
  · exact Int.le_of_lt (List.pairwise_iff_getElem.1 hu i (L.length - 1) hi (by omega) (by omega))
theorem up_mv {L : List Int} (hu : L.Pairwise (· < ·)) (far : Int) : (L.map (· + far)).Pairwise (· < ·) := by
  rw [List.pairwise_map]; exact hu.imp (fun h => by omega)
end Go.Proofs.Ytnccgpdniigekaa
/-
  Plain: each stretch but the last has many keys.
-/
namespace Go.Proofs.Ytnccgpdniigekaa
open Go.RowKit
set_option linter.unusedVariables false
set_option linter.unusedSimpArgs false

/-- Each number is m or more beyond the one ahead. -/
def Spc (m : Int) : Int → List Nat → Prop
  | _, [] => True
  | p, a :: r => p + m ≤ a ∧ Spc m a r
def lastN : Nat → List Nat → Nat
  | p, [] => p
  | _, a :: r => lastN a r
theorem lastN_snoc : ∀ (l : List Nat) (p a : Nat), lastN p (l ++ [a]) = a
  | [], p, a => rfl
  | b :: r, p, a => lastN_snoc r b a
theorem Spc.snoc {m : Int} : ∀ {l : List Nat} {p a : Nat}, Spc m p l → (lastN p l : Int) + m ≤ a → Spc m p (l ++ [a])
  | [], p, a, _, h => ⟨h, trivial⟩
  | b :: r, p, a, hs, h => ⟨hs.1, Spc.snoc hs.2 h⟩
theorem Spc.len {m : Int} : ∀ {l : List Nat} {p : Nat}, Spc m p l → (p : Int) + l.length * m ≤ lastN p l
  | [], p, _ => by simp [lastN]
  | b :: r, p, h => by
    have ih := Spc.len h.2
    have h1 := h.1
    simp only [lastN, List.length_cons]
    have e : (((r.length + 1 : Nat) : Int)) * m = r.length * m + m := by rw [Int.natCast_add, Int.add_mul]; omega
    omega
/-- The number ahead of the i-th. -/
def prevN (p : Nat) (l : List Nat) (i : Nat) : Nat := if i = 0 then p else l.getD (i - 1) 0
theorem Spc.at {m : Int} : ∀ {l : List Nat} {p : Nat}, Spc m p l → ∀ i (h : i < l.length), (prevN p l i : Int) + m ≤ l[i]
  | [], p, _, i, h => absurd h (by simp)
  | b :: r, p, hs, 0, h => by simpa [prevN] using hs.1
  | b :: r, p, hs, i + 1, h => by
    have ih := Spc.at hs.2 i (by simpa using h)
    cases i with
    | zero => simpa [prevN] using ih
    | succ i => simpa [prevN] using ih
theorem lastN_prev : ∀ (l : List Nat) (p : Nat), prevN p l l.length = lastN p l
  | [], p => by simp [prevN, lastN]
  | [b], p => by simp [prevN, lastN]
  | b :: c :: r, p => by
    have := lastN_prev (c :: r) b
    simp [prevN, lastN] at this ⊢
    exact this
/-- What holds of the ends and of the fit, i keys in. -/
structure CI (e : Int) (L : List Int) (i : Nat) (outs : List Nat) (F : Fit) : Prop where
  frm : lastN 0 outs < i
  len : F.keys.length = i - lastN 0 outs
  ok : FitOk F
  low : (F.keys.length : Int) ≤ 2 * e + 1 → F.low = (0, 1)
  lst : F.keys.getLast? = some (L.getD (i - 1) 0)
  spc : Spc (2 * e + 1) ((0 : Nat) : Int) outs
theorem zero_late (k : Int) : Fit.zero.late k = false := rfl
theorem CI.first {e : Int} (he : 0 ≤ e) (k : Int) : (Fit.zero.add e k).2.keys = [k] ∧ (Fit.zero.add e k).2.low = (0, 1) := by
  obtain ⟨t, h⟩ := Fit.add_first FitOk.zero he (key := k) rfl (by simp [Fit.zero]; omega) rfl
  rw [h]; simp [Fit.zero]
theorem CI.mk1 {e : Int} (he : 0 ≤ e) (L : List Int) : CI e L 1 (cutS e L 1).1 (cutS e L 1).2 := by
  rw [cutS_one he]
  obtain ⟨h1, h2⟩ := CI.first he (L.getD 0 0)
  refine ⟨by simp [lastN], by simp only []; rw [h1]; simp [lastN], FitOk.zero.add he _, fun _ => h2, ?_, trivial⟩
  simp only []; rw [h1]; simp
theorem CI.step {e : Int} (he : 0 ≤ e) {L : List Int} (hu : L.Pairwise (· < ·)) {i : Nat} (h0 : 0 < i) (hi : i < L.length) (h : CI e L i (cutS e L i).1 (cutS e L i).2) : CI e L (i + 1) (cutS e L (i + 1)).1 (cutS e L (i + 1)).2 := by
  obtain ⟨outs, F, hq⟩ : ∃ outs F, cutS e L i = (outs, F) := ⟨_, _, rfl⟩
  rw [hq] at h
  replace h : CI e L i outs F := h
  have hlt : L.getD (i - 1) 0 < L.getD i 0 := by
    have := List.pairwise_iff_getElem.1 hu (i - 1) i (by omega) hi (by omega)
    simpa [List.getD_eq_getElem?_getD, List.getElem?_eq_getElem hi, List.getElem?_eq_getElem (show i - 1 < L.length by omega)] using this
  have hl : F.late (L.getD i 0) = false := by
    unfold Fit.late; rw [h.lst]; simp only [decide_eq_false_iff_not]; omega
  rw [cutS, hq]
  simp only []
  have hf := h.frm
  have hn := h.len
  by_cases ht : (F.add e (L.getD i 0)).1.1 = true
  · rw [if_pos ht]
    have hno : ¬ ltF (F.topWith e (L.getD i 0)) (F.lowWith e (L.getD i 0)) := by
      intro k; rw [Fit.add_refuse hl k] at ht; simp at ht
    have ha := Fit.add_take hl hno
    have hok := h.ok.add he (L.getD i 0)
    rw [ha] at hok ⊢
    show CI e L (i + 1) outs ⟨F.keys ++ [L.getD i 0], F.lowWith e (L.getD i 0), F.topWith e (L.getD i 0)⟩
    refine ⟨by omega, by simp only [List.length_append, List.length_cons, List.length_nil]; omega, hok, fun hk => ?_, by simp, h.spc⟩
    have hk' : (F.keys.length : Int) ≤ 2 * e := by simp only [List.length_append, List.length_cons, List.length_nil] at hk; omega
    obtain ⟨t, hf⟩ := Fit.add_first h.ok he (h.low (by omega)) hk' hl
    rw [ha] at hf
    have := (Prod.mk.inj hf).2
    injection this
  · rw [if_neg ht]
    have hbig : ¬ (F.keys.length : Int) ≤ 2 * e := by
      intro k
      obtain ⟨t, hf⟩ := Fit.add_first h.ok he (h.low (by omega)) k hl
      rw [hf] at ht; simp at ht
    obtain ⟨h1, h2⟩ := CI.first he (L.getD i 0)
    have hla := lastN_snoc outs 0 i
    show CI e L (i + 1) (outs ++ [i]) (Fit.zero.add e (L.getD i 0)).2
    refine ⟨by rw [hla]; omega, by rw [hla, h1]; simp, FitOk.zero.add he _, fun _ => h2, by rw [h1]; simp, h.spc.snoc (p := 0) (a := i) ?_⟩
    omega
theorem CI.all {e : Int} (he : 0 ≤ e) {L : List Int} (hu : L.Pairwise (· < ·)) : ∀ i, i < L.length → CI e L (i + 1) (cutS e L (i + 1)).1 (cutS e L (i + 1)).2
  | 0, _ => CI.mk1 he L
  | i + 1, h => CI.step he hu (by omega) h (CI.all he hu i (by omega))
/-- Where the stretches end, when there are keys. -/
theorem few {e : Int} (he : 0 ≤ e) {L : List Int} (hu : L.Pairwise (· < ·)) (h0 : 0 < L.length) :
    ∃ outs, endsL e L = outs ++ [L.length] ∧ Spc (2 * e + 1) ((0 : Nat) : Int) outs ∧ lastN 0 outs < L.length ∧ (outs.length : Int) * (2 * e + 1) ≤ L.length - 1 := by
  have h := CI.all he hu (L.length - 1) (by omega)
  rw [show L.length - 1 + 1 = L.length from by omega] at h
  refine ⟨_, by rw [endsL, if_neg (by omega)], h.spc, h.frm, ?_⟩
  have h1 := h.spc.len
  have h2 := h.frm
  have e0 : ((0 : Nat) : Int) = 0 := rfl
  rw [e0] at h1
  omega
end Go.Proofs.Ytnccgpdniigekaa
