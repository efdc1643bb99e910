/-
  The reference's Ends.
-/
import Derived.Test.YtnccgpdniigekaaQG21
import Derived.Test.YtnccgpdniigekaaQG28
namespace Go.Proofs.Ytnccgpdniigekaa
open Go.RowKit
set_option linter.unusedVariables false
set_option linter.unusedSimpArgs false

/-- A fit of the reference's and the ends so far, all made since w0. -/
def ER (w0 : World) (b : Nat) (e : Int) (F : Fit) (v : Value) (l : List Nat) (w : World) : Prop :=
  ∃ S, RefO w b e F S ∧ Ints w v l ∧ (∀ g, v.ownBlock = some g → ¬ S g ∧ w0.heap.size ≤ g) ∧ (∀ k, S k → w0.heap.size ≤ k) ∧ Below w0.heap.size w0 w
section
variable {w0 w w' : World} {b : Nat} {e : Int} {F F' : Fit} {v : Value} {l : List Nat}
theorem ER.bel (h : ER w0 b e F v l w) : Below w0.heap.size w0 w := by obtain ⟨_, _, _, _, _, h⟩ := h; exact h
theorem ER.ints (h : ER w0 b e F v l w) : Ints w v l ∧ (∀ g, v.ownBlock = some g → w0.heap.size ≤ g) := by obtain ⟨_, _, h1, h2, _⟩ := h; exact ⟨h1, fun g hg => (h2 g hg).2⟩
theorem ER.below (h : ER w0 b e F v l w) (k : Below w.heap.size w w') : ER w0 b e F v l w' := by
  obtain ⟨S, h1, h2, h3, h4, h5⟩ := h
  exact ⟨S, h1.below k, own_chg h2 (Chg.of_below k) (fun _ _ h => h), h3, h4, below_next h5 k⟩
theorem ER.add (h : ER w0 b e F v l w) {key c : Int} {t : Bool} (hp : F.add e key = ((t, c), F')) (hk : u64ok key) (big : F.keys.length < 17592186044416) :
    Calls Try.prog 69 #[.pointer (some ⟨b, 0, none⟩), .int .u64 key] w fun e' w' => e' = .returned (.tuple #[.bool t, .int .i64 c]) ∧ ER w0 b e F' v l w' := by
  obtain ⟨S, h1, h2, h3, h4, h5⟩ := h
  refine (ref_AddO key hk big h1).mono ?_
  rintro e' w' ⟨rfl, S', f1, f2, f3⟩
  rw [hp] at f1 ⊢
  refine ⟨rfl, S', f1, own_chg h2 f2 (fun g hg => (h3 g hg).1), fun g hg => ⟨fun hs => ?_, (h3 g hg).2⟩, fun k hk => ?_, below_chg h5 f2 (fun k _ hk => h4 k hk) h5.size⟩
  · rcases f3 g hs with m | m
    · exact (h3 g hg).1 m
    · have := own_lt h2 hg; omega
  · rcases f3 k hk with m | m
    · exact h4 k m
    · have := h5.size; omega
/-- Another fit in its place. -/
theorem ER.fresh (h : ER w0 b e F v l w) {b' : Nat} {S' : Nat → Prop} (k : Below w.heap.size w w') (H : RefO w' b' e F' S') (hS : ∀ i, S' i → w.heap.size ≤ i) : ER w0 b' e F' v l w' := by
  obtain ⟨S, h1, h2, h3, h4, h5⟩ := h
  exact ⟨S', H, own_chg h2 (Chg.of_below k) (fun _ _ h => h), fun g hg => ⟨fun hs => by have := own_lt h2 hg; have := hS g hs; omega, (h3 g hg).2⟩, fun i hi => Nat.le_trans h5.size (hS i hi), below_next h5 k⟩
/-- The ends with one more. -/
theorem ER.grown (h : ER w0 b e F v l w) {o : Obj} {w1 : World} {g cap i : Nat} (hown : w1.ownsRow 0 3 1 (.slice (some ⟨g, 0, none⟩) (l.length + 1) cap) (l.length + 1) (l.map (fun (n : Nat) => Value.int .i64 (n : Int)) ++ [.int .i64 (i : Int)])) (hgr : (w.alloc o).grownBy w1 v.ownBlock) (hat : v.ownBlock = some g ∨ g = w.heap.size + 1) :
    ER w0 b e F (.slice (some ⟨g, 0, none⟩) (l.length + 1) cap) (l ++ [i]) w1 := by
  obtain ⟨S, h1, h2, h3, h4, h5⟩ := h
  have C : Chg (fun k => v.ownBlock = some k) w w1 := ((Chg.refl _ w).alloc o).grown hgr (fun k hk _ => hk)
  have hlt := h1.lt
  refine ⟨S, h1.chg C (fun j hj hv => (h3 j hv).1 hj), ?_, fun g' hg' => ?_, h4, below_chg h5 C (fun k _ hk => (h3 k hk).2) h5.size⟩
  · unfold Ints
    simpa using hown
  · simp only [Value.ownBlock, Option.some.injEq] at hg'
    subst hg'
    rcases hat with m | m
    · exact h3 _ m
    · exact ⟨fun hs => by have := hlt _ hs; omega, by have := h5.size; omega⟩
end
theorem Add_not_ER {w0 w : World} {b : Nat} {e : Int} {F F' : Fit} {v : Value} {l : List Nat} {key c : Int} (ha : F.add e key = ((false, c), F')) (h : ER w0 b e F' v l w) : ER w0 b e F v l w := by rw [← Fit.add_not ha]; exact h
theorem rends_bad (eps : Int) (h : eps < 2 ∨ 64 < eps) (A : Option Addr) (n c : Nat) (w : World) :
    Calls Try.prog 43 #[.slice A n c, .int .i64 eps] w fun e w' => e = .returned (.tuple #[.slice none 0 0, .int .i64 1]) ∧ w = w' := by
  have N1 := fun w => ref_New_bad eps h w
  go_enter Try.func43, Try.ntmps43
  go_wp2_with fail
  refine (N1 _).mono ?_
  rintro e w1 ⟨rfl, rfl⟩
  go_wp2_with fail
  go_ret2
  exact ⟨rfl, rfl⟩
theorem rends_unsorted (eps : Int) (h1 : 2 ≤ eps) (h2 : eps ≤ 64) (A : Option Addr) (c : Nat) (L : List Int) (hn : L.length ≤ 17592186044416) (hu : ¬ L.Pairwise (· < ·)) (w : World) (hA : ArgU w A L) :
    Calls Try.prog 43 #[.slice A L.length c, .int .i64 eps] w fun e w' => e = .returned (.tuple #[.slice none 0 0, .int .i64 60]) ∧ Below w.heap.size w w' := by
  have N1 := ref_New eps h1 h2 w
  have R := fun (w' : World) (k : Below w.heap.size w w') => ref_Rising A c L hn w' (hA.below k)
  rw [decide_eq_false hu] at R
  have HR := Lib.hid R
  clear R h1 h2 hu hn hA
  go_enter Try.func43, Try.ntmps43
  go_wp2_with fail
  refine N1.mono ?_
  rintro e w1 ⟨rfl, b1, F1⟩
  have R1 := HR.out _ b1
  have HB := Lib.hid b1
  clear N1 HR b1 F1
  go_wp2_with fail
  refine R1.mono ?_
  rintro e w2 ⟨rfl, b2⟩
  go_wp2_with fail
  go_ret2
  exact ⟨rfl, below_next HB.out b2⟩
set_option maxHeartbeats 4000000 in
set_option maxRecDepth 100000 in
theorem rends_good (eps : Int) (h1 : 2 ≤ eps) (h2 : eps ≤ 64) (A : Option Addr) (c : Nat) (L : List Int) (hL : U64s L) (hn : L.length ≤ 17592186044416) (hu : L.Pairwise (· < ·)) (w : World) (hA : ArgU w A L) :
    Calls Try.prog 43 #[.slice A L.length c, .int .i64 eps] w fun e w' => ∃ A' c', e = .returned (.tuple #[.slice A' (endsL (eps - 1) L).length c', .int .i64 0]) ∧ ArgN w' A' (endsL (eps - 1) L) ∧ (∀ g o, A' = some ⟨g, o, none⟩ → w.heap.size ≤ g) ∧ Below w.heap.size w w' := by
  have N1 := fun w => ref_New eps h1 h2 w
  have R := fun (w' : World) (k : Below w.heap.size w w') => ref_Rising A c L hn w' (hA.below k)
  rw [decide_eq_true hu] at R
  have HR := Lib.hid R
  have HU := Lib.hid hL
  have HA := Lib.hid hA
  have HN := Lib.hid hn
  have HE := Lib.hid (And.intro h1 h2)
  obtain ⟨i0, hi, hz0, hz1, hz2⟩ := info_parts infoI
  have HN1 := Lib.hid N1
  clear R h1 h2 hu hn hA hL N1
  go_enter Try.func43, Try.ntmps43
  go_wp2_with fail
  refine (HN1.out w).mono ?_
  rintro e w1 ⟨rfl, b1, F1⟩
  have R1 := HR.out _ b1
  have HB := Lib.hid (And.intro b1 F1)
  clear HR b1 F1
  go_wp2_with fail
  refine R1.mono ?_
  rintro e w2 ⟨rfl, b2⟩
  have ST : Hid (ER w w.heap.size (eps - 1) Fit.zero (.slice (some ⟨w2.heap.size, 0, none⟩) 0 0) [] (w2.alloc (.cells #[] 3))) := Lib.hid ⟨_, (HB.out.2.below b2).below (below_new (Below.refl _ _) _), ⟨rfl, .inr ⟨w2.heap.size, 0, #[], rfl, Nat.zero_le _, Blk.new _ _ _, Nat.le_refl _, Nat.zero_le _, rfl, rfl⟩⟩, fun g hg => by
    simp [Value.ownBlock] at hg
    have k1 := HB.out.1.size
    have k2 := b2.size
    have k3 := HB.out.2.lt w.heap.size rfl
    exact ⟨by omega, by omega⟩, fun k hk => by omega, below_next (below_next HB.out.1 b2) (below_new (Below.refl _ _) _)⟩
  clear R1 HB b2
  go_wp2_with fail
  go_loopw [6, 8, 9] (fun x6 x8 x9 wx => ∃ (i b : Nat), i ≤ L.length ∧ x6 = .pointer (some ⟨b, 0, none⟩) ∧ x9 = .int .i64 (i : Int) ∧ Hid (ER w b (eps - 1) (cutS (eps - 1) L i).2 x8 (cutS (eps - 1) L i).1 wx)) (fun _ _ x _ => L.length - (intOf x).toNat)
  case atStart => exact ⟨0, w.heap.size, by omega, rfl, rfl, ST⟩
  case round =>
    obtain ⟨i, b, hi2, rfl, rfl, HER0⟩ := hrel
    have hN := HN.out
    obtain ⟨outs, F, hq⟩ : ∃ outs F, cutS (eps - 1) L i = (outs, F) := ⟨_, _, rfl⟩
    have HER : Hid (ER w b (eps - 1) F u8 outs wr) := by rw [hq] at HER0; exact HER0
    have HQ := Lib.hid hq
    have hol : outs.length ≤ i := by
      cases i with
      | zero => rw [cutS] at hq; injection hq with h1 h2; subst h1; simp
      | succ i => have := cutS_len (e := eps - 1) (by have := HE.out; omega) L i; rw [hq] at this; exact Nat.le_succ_of_le this
    have hfl : F.keys.length ≤ i := by have := cutS_keys (e := eps - 1) L i; rw [hq] at this; exact this
    clear hq HER0
    by_cases hlt : i < L.length
    · obtain ⟨bb, o, rfl, hbl, hc0⟩ := HA.out.at hlt
      have hku := HU.out.at hlt
      obtain ⟨key, hkey⟩ : ∃ key, L[i] = key := ⟨_, rfl⟩
      have hkd : L.getD i 0 = key := by rw [List.getD_eq_getElem?_getD, List.getElem?_eq_getElem hlt, Option.getD_some, hkey]
      rw [hkey] at hc0 hku
      obtain ⟨⟨⟨t, cc⟩, F'⟩, hadd⟩ : ∃ r, F.add (eps - 1) key = r := ⟨_, rfl⟩
      have AD := HER.out.add hadd hku (by omega)
      have hc : wr.cell? ⟨bb, o + i, none⟩ = some (.int .u64 key) := (HER.out.bel.cell (p := ⟨bb, _, none⟩) hbl).trans hc0
      have HC := Lib.hid (And.intro hbl (And.intro hc0 (And.intro hku (And.intro hadd hkd))))
      clear hkey hkd hc0 hadd hbl hku
      go_wp2_with fail
      refine AD.mono ?_
      rintro e5 w5 ⟨rfl, M5⟩
      have HER5 := Lib.hid M5
      clear AD hc M5 HER
      cases t with
      | true =>
        have NX : Hid (cutS (eps - 1) L (i + 1) = (outs, F')) := Lib.hid (by
          have := cutS_go HQ.out (by rw [HC.out.2.2.2.2, HC.out.2.2.2.1]); rw [HC.out.2.2.2.2, HC.out.2.2.2.1] at this; exact this)
        go_wp2_with fail
        go_roundw
        case rel => exact ⟨i + 1, b, by omega, rfl, by go_num, by rw [NX.out]; exact HER5⟩
        case measure => simp [intOf]; omega
      | false =>
        have HER := Lib.hid (Add_not_ER HC.out.2.2.2.1 HER5.out)
        obtain ⟨⟨⟨t2, c2⟩, F2⟩, hadd2⟩ : ∃ r, Fit.zero.add (eps - 1) key = r := ⟨_, rfl⟩
        have NX : Hid (cutS (eps - 1) L (i + 1) = (outs ++ [i], F2)) := Lib.hid (by
          rw [cutS, HQ.out]
          simp only []
          rw [HC.out.2.2.2.2, if_neg (by rw [HC.out.2.2.2.1]; simp), hadd2])
        have HA2 := Lib.hid hadd2
        have HO1 : Hid ((w5.alloc (.cells #[.int .i64 (i : Int)] 3)).ownsRow 0 3 1 u8 outs.length (outs.map (fun (n : Nat) => Value.int .i64 (n : Int)))) := Lib.hid (own_chg HER.out.ints.1 ((Chg.refl (fun _ => False) w5).alloc _) (fun _ _ h => h))
        have HFO : Hid (∀ u ∈ ([.int .i64 (i : Int)] : List Value), u.oneCell' = true) := Lib.hid (by intro u hu; simp at hu; rcases hu with rfl; rfl)
        have NW := HN1.out
        clear hadd2 HER5
        go_wp2_with (at_builtin; go_loud (refine wpList_append_lies _ rfl (.tmp 41) (.tmp 43) 71 (by rfl) 0 3 i0 _ 1 8 Try.underlying71 hi hz0 hz1 hz2 rfl (by omega) u8 outs.length (outs.map (fun (n : Nat) => Value.int .i64 (n : Int))) (by rfl) HO1.out ⟨w5.heap.size, 0, none⟩ 1 1 [.int .i64 (i : Int)] (by rfl) (by rfl) (World.news_of_block (Blk.new w5 3 #[.int .i64 (i : Int)])) HFO.out (by omega) (by unfold maxLen; omega) (by omega) (Nat.zero_le _) (w5.heap.size + 1) (by simp) ?_; intro gn capn wn hown hgr hat hltn; have HG2 := Lib.hid (HER.out.grown hown hgr hat); clear hown hgr hat hltn))
        refine (NW _).mono ?_
        rintro e6 w6 ⟨rfl, b6, F6⟩
        have HER6 := Lib.hid (HG2.out.fresh b6 F6 (fun i hi => by omega))
        have hc6 : w6.cell? ⟨bb, o + i, none⟩ = some (.int .u64 key) := (HER6.out.bel.cell (p := ⟨bb, _, none⟩) HC.out.1).trans HC.out.2.1
        have AD2 := HER6.out.add HA2.out HC.out.2.2.1 (by simp [Fit.zero])
        clear NW b6 F6 HG2
        go_wp2_with fail
        refine AD2.mono ?_
        rintro e7 w7 ⟨rfl, M7⟩
        have HER7 := Lib.hid M7
        clear AD2 hc6 M7
        go_wp2_with fail
        go_roundw
        case rel => exact ⟨i + 1, _, by omega, rfl, by go_num, by rw [NX.out]; exact HER7⟩
        case measure => simp [intOf]; omega
    · have hil : i = L.length := by omega
      subst hil
      by_cases h0 : L.length = 0
      · have EN : Hid (endsL (eps - 1) L = [] ∧ outs = []) := Lib.hid ⟨by rw [endsL, if_pos h0], List.eq_nil_of_length_eq_zero (by omega)⟩
        have h0' : ¬ 0 < L.length := by omega
        clear hfl hol h0 hlt hi2
        go_wp2_with fail
        go_ret2
        obtain ⟨A', c', h | h⟩ := HER.out.ints.1.arg
        · obtain ⟨rfl, ha, _⟩ := h
          have ho := HER.out.ints.2
          rw [EN.out.1]
          rw [EN.out.2] at ha ⊢
          exact ⟨A', c', rfl, ha, fun g o h => ho g (by rw [h]; rfl), HER.out.bel⟩
        · rw [EN.out.2] at h; simp at h
      · have EN : Hid (endsL (eps - 1) L = outs ++ [L.length]) := Lib.hid (endsL_of (by omega) HQ.out)
        have h0' : 0 < L.length := by omega
        have ho2 : outs.length + 1 ≤ L.length := by
          have := cutS_len (e := eps - 1) (by have := HE.out; omega) L (L.length - 1)
          rw [show L.length - 1 + 1 = L.length from by omega, HQ.out] at this
          have k : outs.length ≤ L.length - 1 := this
          omega
        have HO1 : Hid ((wr.alloc (.cells #[.int .i64 (L.length : Int)] 3)).ownsRow 0 3 1 u8 outs.length (outs.map (fun (n : Nat) => Value.int .i64 (n : Int)))) := Lib.hid (own_chg HER.out.ints.1 ((Chg.refl (fun _ => False) wr).alloc _) (fun _ _ h => h))
        have HFO : Hid (∀ u ∈ ([.int .i64 (L.length : Int)] : List Value), u.oneCell' = true) := Lib.hid (by intro u hu; simp at hu; rcases hu with rfl; rfl)
        clear hfl hol h0 hlt hi2
        go_wp2_with (at_builtin; go_loud (refine wpList_append_lies _ rfl (.tmp 59) (.tmp 62) 71 (by rfl) 0 3 i0 _ 1 8 Try.underlying71 hi hz0 hz1 hz2 rfl (by omega) u8 outs.length (outs.map (fun (n : Nat) => Value.int .i64 (n : Int))) (by rfl) HO1.out ⟨wr.heap.size, 0, none⟩ 1 1 [.int .i64 (L.length : Int)] (by rfl) (by rfl) (World.news_of_block (Blk.new wr 3 #[.int .i64 (L.length : Int)])) HFO.out (by omega) (by unfold maxLen; omega) (by omega) (Nat.zero_le _) (wr.heap.size + 1) (by simp) ?_; intro gn capn wn hown hgr hat hltn; have HG2 := Lib.hid (HER.out.grown hown hgr hat); clear hown hgr hat hltn))
        go_ret2
        obtain ⟨A', c', h | h⟩ := HG2.out.ints.1.arg
        · obtain ⟨hv, ha, _⟩ := h
          rw [EN.out]
          have ho := HG2.out.ints.2
          exact ⟨A', c', by rw [← hv]; rfl, ha, fun g o h => ho g (by rw [hv, h]; rfl), HG2.out.bel⟩
        · simp at h; omega
end Go.Proofs.Ytnccgpdniigekaa
/-
  The law CutEnds: its words.
-/
namespace Go.Proofs.Ytnccgpdniigekaa
open Go.RowKit
set_option linter.unusedVariables false
set_option linter.unusedSimpArgs false

/-- What both programs answer. -/
instance (eps : Int) (L : List Int) : Decidable (Good eps L) := by unfold Good; exact inferInstance
def ansL (eps : Int) (L : List Int) : List Nat := if Good eps L then endsL (eps - 1) L else []
def ansC (eps : Int) (L : List Int) : Int := if eps < 2 ∨ 64 < eps then 1 else if L.Pairwise (· < ·) then 0 else 60
theorem rends_all (eps : Int) (A : Option Addr) (c : Nat) (L : List Int) (hL : U64s L) (hn : L.length ≤ 17592186044416) (w : World) (hA : ArgU w A L) :
    Calls Try.prog 43 #[.slice A L.length c, .int .i64 eps] w fun e w' => ∃ A' c', e = .returned (.tuple #[.slice A' (ansL eps L).length c', .int .i64 (ansC eps L)]) ∧ ArgN w' A' (ansL eps L) ∧ (∀ g o, A' = some ⟨g, o, none⟩ → w.heap.size ≤ g) ∧ Below w.heap.size w w' := by
  by_cases hb : eps < 2 ∨ 64 < eps
  · have h1 : ansC eps L = 1 := by unfold ansC; rw [if_pos hb]
    have h2 : ansL eps L = [] := by unfold ansL; rw [if_neg (fun h => by have h1 := h.1; have h2 := h.2.1; omega)]
    refine (rends_bad eps hb A L.length c w).mono ?_
    rintro e w' ⟨rfl, rfl⟩
    rw [h1, h2]
    exact ⟨none, 0, rfl, fun h => by simp at h, fun g o h => by simp at h, Below.refl _ _⟩
  · by_cases hu : L.Pairwise (· < ·)
    · have h1 : ansC eps L = 0 := by unfold ansC; rw [if_neg hb, if_pos hu]
      have h2 : ansL eps L = endsL (eps - 1) L := by unfold ansL; rw [if_pos ⟨by omega, by omega, hu⟩]
      rw [h1, h2]
      exact rends_good eps (by omega) (by omega) A c L hL hn hu w hA
    · have h1 : ansC eps L = 60 := by unfold ansC; rw [if_neg hb, if_neg hu]
      have h2 : ansL eps L = [] := by unfold ansL; rw [if_neg (fun h => hu h.2.2)]
      refine (rends_unsorted eps (by omega) (by omega) A c L hn hu w hA).mono ?_
      rintro e w' ⟨rfl, hb⟩
      rw [h1, h2]
      exact ⟨none, 0, rfl, fun h => by simp at h, fun g o h => by simp at h, hb⟩
theorem ArgN.chg {w w' : World} {A : Option Addr} {l : List Nat} {S : Nat → Prop} (h : ArgN w A l) (k : Chg S w w') (hS : ∀ g o, A = some ⟨g, o, none⟩ → ¬ S g) : ArgN w' A l := fun hn => by
  obtain ⟨b, o, hA, hb, hc⟩ := h hn
  refine ⟨b, o, hA, Nat.lt_of_lt_of_le hb k.size, fun i hi => ?_⟩
  exact (World.cell?_of_block (k.block b hb (hS b o hA))).trans (hc i hi)
theorem ArgU.chg {w w' : World} {A : Option Addr} {l : List Int} {S : Nat → Prop} (h : ArgU w A l) (k : Chg S w w') (hS : ∀ g o, A = some ⟨g, o, none⟩ → ¬ S g) : ArgU w' A l := fun hn => by
  obtain ⟨b, o, hA, hb, hc⟩ := h hn
  refine ⟨b, o, hA, Nat.lt_of_lt_of_le hb k.size, fun i hi => ?_⟩
  exact (World.cell?_of_block (k.block b hb (hS b o hA))).trans (hc i hi)
end Go.Proofs.Ytnccgpdniigekaa
