/-
  The reference's Firsts.
-/
import Derived.Test.YtnccgpdniigekaaQG25
import Derived.Test.YtnccgpdniigekaaQG22
namespace Go.Proofs.Ytnccgpdniigekaa
open Go.RowKit
set_option linter.unusedVariables false
set_option linter.unusedSimpArgs false
attribute [local go_sem high] run_store_float

/-- Keys gathered so far. -/
structure FR (w : World) (v : Value) (L : List Int) (wr : World) : Prop where
  own : wr.ownsRow 0 24 1 v L.length (L.map (Value.int .u64))
  new : ∀ g, v.ownBlock = some g → w.heap.size ≤ g
  bel : Below w.heap.size w wr
theorem FR.start (w : World) : FR w (.slice (some ⟨w.heap.size, 0, none⟩) 0 0) [] (w.alloc (.cells #[] 24)) :=
  ⟨⟨rfl, .inr ⟨w.heap.size, 0, #[], rfl, Nat.zero_le _, Blk.new _ _ _, Nat.le_refl _, Nat.zero_le _, rfl, rfl⟩⟩, fun g hg => by simp [Value.ownBlock] at hg; omega, below_new (Below.refl _ _) _⟩
theorem FR.grown {w wr w1 : World} {v : Value} {L : List Int} {x : Int} {o : Obj} {g cap n : Nat} (h : FR w v L wr) (hn : L.length = n)
    (hown : w1.ownsRow 0 24 1 (.slice (some ⟨g, 0, none⟩) (n + 1) cap) (n + 1) (L.map (Value.int .u64) ++ [.int .u64 x]))
    (hgr : (wr.alloc o).grownBy w1 v.ownBlock) (hat : v.ownBlock = some g ∨ g = wr.heap.size + 1) : FR w (.slice (some ⟨g, 0, none⟩) (n + 1) cap) (L ++ [x]) w1 := by
  subst hn
  have C : Chg (fun k => v.ownBlock = some k) wr w1 := ((Chg.refl _ wr).alloc o).grown hgr (fun k hk _ => hk)
  refine ⟨by simpa using hown, fun g' hg' => ?_, below_chg h.bel C (fun k _ hk => h.new k hk) h.bel.size⟩
  simp only [Value.ownBlock, Option.some.injEq] at hg'
  subst hg'
  rcases hat with m | m
  · exact h.new _ m
  · have := h.bel.size; omega
theorem FR.arg {w wr : World} {v : Value} {L : List Int} (h : FR w v L wr) : ∃ A c, v = .slice A L.length c ∧ ArgU wr A L ∧ L.length ≤ c := by
  rcases h.own.2 with ⟨hv, h0⟩ | ⟨g, cap, cur, hv, hr⟩
  · exact ⟨none, 0, by rw [hv, h0], fun h => by omega, by omega⟩
  · have hlt : g < wr.heap.size := Blk.lt (t := 24) hr.2.1
    refine ⟨_, _, hv, fun _ => ⟨g, 0, rfl, hlt, fun i hi => ?_⟩, hr.2.2.1⟩
    have hc := World.ownsRow.cells h.own (g := g) (by rw [hv]; rfl) i (.int .u64 L[i]) (by simp [List.getElem?_eq_getElem hi])
    rw [Addr.add_mid] at hc
    exact hc
theorem firsts_take {l : List Sg} {i : Nat} {s : Sg} (hi : i < l.length) (hs : l.getD i zS = s) : (firstsL l).take i ++ [s.first] = (firstsL l).take (i + 1) := by
  have hl : i < (firstsL l).length := by rw [firsts_len]; exact hi
  rw [List.take_succ_eq_append_getElem hl]
  have := firsts_getD l hi
  rw [List.getD_eq_getElem?_getD, List.getElem?_eq_getElem hl, hs] at this
  simp only [Option.getD_some] at this
  rw [this]

set_option maxHeartbeats 4000000 in
set_option maxRecDepth 100000 in
theorem refFirsts_any (A : Option Addr) (c : Nat) (l : List Sg) (hn : l.length ≤ 17592186044416) (w : World) (hA : ArgS w A l) :
    Calls Try.prog 28 #[.slice A l.length c] w fun e w' => ∃ v, e = .returned v ∧ FR w v (firstsL l) w' := by
  obtain ⟨i0, hi, hz0, hz1, hz2⟩ := info_parts infoU
  have HA := Lib.hid hA
  have HN := Lib.hid hn
  have F0 := Lib.hid (FR.start w)
  clear hA hn
  go_enter Try.func28, Try.ntmps28
  go_wp2_with fail
  go_loopw [3, 4] (fun v x wr => ∃ i : Nat, i ≤ l.length ∧ x = .int .i64 i ∧ Hid (FR w v ((firstsL l).take i) wr)) (fun _ x _ => l.length - (intOf x).toNat)
  case atStart => exact ⟨0, Nat.zero_le _, rfl, F0⟩
  case round =>
    obtain ⟨i, hi', rfl, H⟩ := hrel
    clear F0
    by_cases hlt : i < l.length
    · have i0' : (0 : Int) ≤ (i : Int) := by omega
      have i1 : (i : Int) < (l.length : Int) := by omega
      obtain ⟨b, o, rfl, hb, hc⟩ := HA.out (by omega)
      obtain ⟨s0, s1, s2, s3, s4⟩ := (hc i hlt).below H.out.bel hb
      obtain ⟨s, hs⟩ : ∃ s, l.getD i zS = s := ⟨_, rfl⟩
      have TK := Lib.hid (firsts_take hlt hs)
      have LT : ((firstsL l).take i).length = i := by rw [List.length_take, firsts_len]; omega
      rw [hs] at s0
      obtain ⟨k, hk⟩ : ∃ k, s.first = k := ⟨_, rfl⟩
      rw [hk] at s0 TK
      obtain ⟨L, hL⟩ : ∃ L, (firstsL l).take i = L := ⟨_, rfl⟩
      rw [hL] at H TK LT
      have hl2 := HN.out
      have v1 : wrap64 ((i : Int) + 1) = (i : Int) + 1 := by unfold wrap64; omega
      have HO1 : Hid ((wr.alloc (.cells #[.int .u64 k] 24)).ownsRow 0 24 1 u3 L.length (L.map (Value.int .u64))) := Lib.hid (own_chg H.out.own ((Chg.refl (fun _ => False) wr).alloc _) (fun _ _ h => h))
      have HFO : Hid (∀ u ∈ ([.int .u64 k] : List Value), u.oneCell' = true) := Lib.hid (by intro u hu; simp at hu; rcases hu with rfl; rfl)
      have LN : L.length + 1 ≤ 17592186044416 := by omega
      clear hc hs hk hL s1 s2 s3 s4 LT
      go_wp2_with (at_builtin; go_loud (refine wpList_append_lies _ rfl (.tmp 12) (.tmp 18) 22 (by rfl) 0 24 i0 _ 1 8 Try.underlying22 hi hz0 hz1 hz2 rfl (by omega) u3 L.length (L.map (Value.int .u64)) (by rfl) HO1.out ⟨wr.heap.size, 0, none⟩ 1 1 [.int .u64 k] (by rfl) (by rfl) (World.news_of_block (Blk.new wr 24 #[.int .u64 k])) HFO.out (by omega) (by unfold maxLen; omega) (by omega) (Nat.zero_le _) (wr.heap.size + 1) (by simp) ?_; intro gn capn wn hown hgr hat hltn; have HG2 := Lib.hid (H.out.grown rfl hown hgr hat); clear hown hgr hat hltn))
      go_roundw
      case rel => exact ⟨i + 1, by omega, by go_num, by rw [← TK.out]; exact HG2⟩
      case measure => exact meas_next hlt
    · obtain rfl : i = l.length := by omega
      have i1 : ¬ (l.length : Int) < (l.length : Int) := by omega
      have TA : (firstsL l).take l.length = firstsL l := List.take_of_length_le (by rw [firsts_len]; exact Nat.le_refl _)
      have H2 := Lib.hid (show FR w u3 (firstsL l) wr by have := H.out; rwa [TA] at this)
      clear TA H hlt
      go_wp2_with fail
      go_ret
      exact ⟨u3, rfl, H2.out⟩
end Go.Proofs.Ytnccgpdniigekaa
/-
  The reference's Check.
-/
namespace Go.Proofs.Ytnccgpdniigekaa
open Go.RowKit
set_option linter.unusedVariables false
set_option linter.unusedSimpArgs false
attribute [local go_sem high] run_store_float

/-- One segment in its own block. -/
structure KR (w w2 wi : World) (s : Sg) (w' : World) : Prop where
  sb : SB w2 wi.heap.size s w'
  bel : Below w.heap.size w w'
  bb : Below wi.heap.size wi w'
theorem KR.below {w w2 wi w' wx : World} {s : Sg} (h : KR w w2 wi s w') (k : Below w'.heap.size w' wx) : KR w w2 wi s wx := ⟨h.sb.below k, below_next h.bel k, below_next h.bb k⟩
theorem KR.drew {w w2 wi w' : World} {s : Sg} (h : KR w w2 wi s w') : KR w w2 wi s w'.drew := ⟨h.sb.drew, h.bel.drew, h.bb.drew⟩
theorem KR.all {w w2 wi w' : World} {a : Int} {b c : Nat} {d e : Int} (h : KR w w2 wi ⟨a, b, c, d, e⟩ w') : KR w w2 wi ⟨a, b, c, d, e⟩ w' ∧ w'.cell? ⟨wi.heap.size, 0, none⟩ = some (.int .u64 a) ∧ w'.cell? ⟨wi.heap.size, 1, none⟩ = some (.float .f64 b) ∧ w'.cell? ⟨wi.heap.size, 2, none⟩ = some (.float .f64 c) ∧ w'.cell? ⟨wi.heap.size, 3, none⟩ = some (.int .i64 d) ∧ w'.cell? ⟨wi.heap.size, 4, none⟩ = some (.int .i64 e) :=
  ⟨h, h.sb.all.2⟩
theorem tl_pos {n : Int} {l : List Sg} (hn : 0 < n) (h : tl n 0 l = true) : 0 < l.length := by
  cases l with
  | nil => rw [tl, decide_eq_true_eq] at h; omega
  | cons s l => simp

theorem rcheck_bad (A : Option Addr) (n1 c : Nat) (eps : Int) (B : Option Addr) (n d : Nat) (h : eps < 2 ∨ 64 < eps) (w : World) :
    Calls Try.prog 22 #[.slice A n1 c, .int .i64 eps, .slice B n d] w fun e w' => e = .returned (.int .i64 1) ∧ Below w.heap.size w w' := by
  by_cases h1 : eps < 2
  · clear h
    go_enter Try.func22, Try.ntmps22
    go_wp2_with fail
    go_ret
    exact ⟨rfl, Below.refl _ _⟩
  · have a2 : 64 < eps := by omega
    clear h
    go_enter Try.func22, Try.ntmps22
    go_wp2_with fail
    go_ret
    exact ⟨rfl, Below.refl _ _⟩
theorem rcheck_unsorted (A : Option Addr) (c : Nat) (K : List Int) (eps : Int) (h1 : 2 ≤ eps) (h2 : eps ≤ 64) (hn : K.length ≤ 17592186044416) (hu : ¬ K.Pairwise (· < ·)) (B : Option Addr) (n d : Nat) (w : World) (hA : ArgU w A K) :
    Calls Try.prog 22 #[.slice A K.length c, .int .i64 eps, .slice B n d] w fun e w' => e = .returned (.int .i64 80) ∧ Below w.heap.size w w' := by
  have R := ref_Rising A c K hn w hA
  rw [decide_eq_false hu] at R
  have a1 : ¬ eps < 2 := by omega
  have a2 : ¬ 64 < eps := by omega
  clear hu hA
  go_enter Try.func22, Try.ntmps22
  go_wp2_with fail
  refine R.mono ?_
  rintro e wx ⟨rfl, b1⟩
  have B1 := Lib.hid b1
  clear b1
  go_wp2_with fail
  go_ret
  exact ⟨rfl, B1.out⟩
set_option maxRecDepth 100000 in
theorem rcheck_high (A : Option Addr) (c : Nat) (K : List Int) (eps : Int) (h1 : 2 ≤ eps) (h2 : eps ≤ 64) (hn : K.length ≤ 17592186044416) (hu : K.Pairwise (· < ·)) (B : Option Addr) (n d : Nat) (hh : mhI 4294967296 eps < n ∨ ¬ (n = 0 ↔ K.length = 0)) (w : World) (hA : ArgU w A K) :
    Calls Try.prog 22 #[.slice A K.length c, .int .i64 eps, .slice B n d] w fun e w' => e = .returned (.int .i64 81) ∧ Below w.heap.size w w' := by
  have MH := fun w' => refMaxHeight_any 4294967296 eps (by decide) w'
  have R := ref_Rising A c K hn w hA
  rw [decide_eq_true hu] at R
  have HH := Lib.hid hh
  have a1 : ¬ eps < 2 := by omega
  have a2 : ¬ 64 < eps := by omega
  clear hu hA hh
  generalize mhI 4294967296 eps = m at *
  go_enter Try.func22, Try.ntmps22
  go_wp2_with fail
  refine R.mono ?_
  rintro e wx ⟨rfl, b1⟩
  have B1 := Lib.hid b1
  clear b1
  go_wp2_with fail
  refine (MH _).mono ?_
  rintro e wx ⟨rfl, rfl⟩
  by_cases hm : m < (n : Int)
  · go_wp2_with fail
    go_ret
    exact ⟨rfl, B1.out⟩
  · have hz := HH.out
    clear HH
    by_cases z1 : n = 0
    · have z2 : ¬ K.length = 0 := by intro hk; rcases hz with h | h; exact hm h; exact h ⟨fun _ => hk, fun _ => z1⟩
      clear hz
      have e1 : ((n : Int) == 0) = true := by simp [z1]
      have e2 : ((K.length : Int) == 0) = false := by rw [beq_eq_false_iff_ne]; omega
      clear z1 z2
      go_wp2_with fail
      go_ret
      exact ⟨rfl, B1.out⟩
    · have z2 : K.length = 0 := by rcases hz with h | h; exact absurd h hm; apply Classical.byContradiction; intro hk; exact h ⟨fun h => absurd h z1, fun h => absurd h hk⟩
      clear hz
      have e1 : ((n : Int) == 0) = false := by rw [beq_eq_false_iff_ne]; omega
      have e2 : ((K.length : Int) == 0) = true := by simp [z2]
      clear z1 z2
      go_wp2_with fail
      go_ret
      exact ⟨rfl, B1.out⟩
end Go.Proofs.Ytnccgpdniigekaa
/-
  The reference's Check, the levels.
-/
namespace Go.Proofs.Ytnccgpdniigekaa
open Go.RowKit
set_option linter.unusedVariables false
set_option linter.unusedSimpArgs false
attribute [local go_sem high] run_store_float

/-- What the reference's loop over the levels keeps. -/
structure OQ (w : World) (eps : Int) (K : List Int) (ll : List (List Sg)) (A' : Option Addr) (c' : Nat) (K' : List Int) (i : Nat) (wr : World) : Prop where
  arg : ArgU wr A' K'
  ok : U64s K'
  len : K'.length ≤ 17592186044416
  cap : K'.length ≤ c'
  bel : Below w.heap.size w wr
  eq : levE eps ll K = levE eps (ll.drop i) K'
  pos : 0 < K'.length
  prev : 0 < i → K'.length = (ll.getD (i - 1) []).length

theorem bel_drewN {B : Nat} {w w' : World} (h : Below B w w') : ∀ n, Below B w (w'.drewN n)
  | 0 => h
  | n + 1 => (bel_drewN h n).drew
theorem KR.drewN {w w2 wi w' : World} {s : Sg} (h : KR w w2 wi s w') (n : Nat) : KR w w2 wi s (w'.drewN n) := ⟨⟨h.sb.blk, bel_drewN h.sb.bel n⟩, bel_drewN h.bel n, bel_drewN h.bb n⟩
set_option maxHeartbeats 16000000 in
set_option maxRecDepth 100000 in
theorem rcheck_main (A : Option Addr) (c : Nat) (K : List Int) (eps : Int) (h1 : 2 ≤ eps) (h2 : eps ≤ 64) (hK : U64s K) (hn : K.length ≤ 17592186044416) (hc : K.length ≤ c) (hu : K.Pairwise (· < ·))
    (B : Option Addr) (d : Nat) (ll : List (List Sg)) (hok : ∀ l ∈ ll, ∀ s ∈ l, SgOk s) (hln : ∀ l ∈ ll, l.length ≤ 17592186044416) (hll : ll.length ≤ 17592186044416)
    (hm : (ll.length : Int) ≤ mhI 4294967296 eps) (hz1 : 0 < ll.length) (hz2 : 0 < K.length) (w : World) (hA : ArgU w A K) (hB : ArgSS w B ll) :
    Calls Try.prog 22 #[.slice A K.length c, .int .i64 eps, .slice B ll.length d] w fun e w' => e = .returned (.int .i64 (levE eps ll K)) ∧ Below w.heap.size w w' := by
  have MH := fun w' => refMaxHeight_any 4294967296 eps (by decide) w'
  have R := ref_Rising A c K hn _ hA
  rw [decide_eq_true hu] at R
  have I0 : Hid (∀ w', Below w.heap.size w w' → OQ w eps K ll A c K 0 w') := Lib.hid fun w' k => ⟨hA.below k, hK, hn, hc, k, rfl, hz2, fun h => absurd h (by omega)⟩
  have HB := Lib.hid hB
  have HO := Lib.hid hok
  have HL := Lib.hid hln
  have HN := Lib.hid hll
  have e1 : ((ll.length : Int) == 0) = false := by rw [beq_eq_false_iff_ne]; omega
  have e2 : ((K.length : Int) == 0) = false := by rw [beq_eq_false_iff_ne]; omega
  have a1 : ¬ eps < 2 := by omega
  have a2 : ¬ 64 < eps := by omega
  clear hu hA hB hok hln hll hK hc hn h1 h2
  generalize mhI 4294967296 eps = m at *
  have hm' : ¬ m < (ll.length : Int) := by omega
  go_enter Try.func22, Try.ntmps22
  go_wp2_with fail
  refine R.mono ?_
  rintro e w1 ⟨rfl, b1⟩
  have I1 := Lib.hid (I0.out _ b1)
  clear b1 I0 R
  go_wp2_with fail
  refine (MH _).mono ?_
  rintro e wx ⟨rfl, rfl⟩
  go_wp2_with fail
  go_loopw [0, 7] (fun x y wr => ∃ (i : Nat) (K' : List Int) (A' : Option Addr) (c' : Nat), i ≤ ll.length ∧ x = .slice A' K'.length c' ∧ y = .int .i64 i ∧ Hid (OQ w eps K ll A' c' K' i wr)) (fun _ y _ => ll.length - (intOf y).toNat)
  case atStart => exact ⟨0, K, A, c, Nat.zero_le _, rfl, rfl, I1⟩
  case round =>
    obtain ⟨i, K', A', c', hi', rfl, rfl, I⟩ := hrel
    clear I1
    by_cases hlt : i < ll.length
    · have i0' : (0 : Int) ≤ (i : Int) := by omega
      have i1 : (i : Int) < (ll.length : Int) := by omega
      obtain ⟨b, o, rfl, hb, hc⟩ := HB.out (by omega)
      have HBW : Hid (∀ w', Below w.heap.size w w' → ∃ A2 c2, w'.cell? ⟨b, o + i, none⟩ = some (.slice A2 (ll.getD i []).length c2) ∧ ArgS w' A2 (ll.getD i [])) := Lib.hid fun w' k => by
        obtain ⟨A2, c2, h1, h2⟩ := hc i hlt
        exact ⟨A2, c2, (k.cell (p := ⟨b, _, none⟩) hb).trans h1, h2.below k⟩
      obtain ⟨A2, c2, hcell0, hseg0⟩ := hc i hlt
      have hcell := (I.out.bel.cell (p := ⟨b, _, none⟩) hb).trans hcell0
      have HC : Hid (∀ w', Below w.heap.size w w' → w'.cell? ⟨b, o + i, none⟩ = some (.slice A2 (ll.getD i []).length c2)) := Lib.hid fun w' k => (k.cell (p := ⟨b, _, none⟩) hb).trans hcell0
      have hseg := hseg0.below I.out.bel
      have SA0 := Lib.hid hseg0
      obtain ⟨l, hl⟩ : ∃ l, ll.getD i [] = l := ⟨_, rfl⟩
      rw [hl] at hcell hseg SA0 HC
      have hmem := mem_getD hlt hl
      have SO := Lib.hid (HO.out l hmem)
      have SL := HL.out l hmem
      have hpos := I.out.pos
      have TL := refTiles_any A2 c2 l SL K'.length (by omega) wr hseg
      have T1 := Lib.hid (fun h => I.out.eq.trans (levE_tile (eps := eps) hlt hl h))
      have T2 := Lib.hid (fun cc h1 h2 h3 => I.out.eq.trans (levE_seg (eps := eps) (c := cc) hlt hl h1 h2 h3))
      have T3 := Lib.hid (fun h1 h2 => I.out.eq.trans (levE_next (eps := eps) hlt hl h1 h2))
      have HLL := Lib.hid hl
      clear hc hl hmem hseg hcell0 hseg0 HBW
      by_cases ht : tl K'.length 0 l = true
      · rw [ht] at TL
        have HT := Lib.hid ht
        have OK' := Lib.hid I.out.ok
        have UP := Lib.hid (tl_up ht)
        have LP := Lib.hid (tl_pos (by omega) ht)
        have LN' := Lib.hid (And.intro I.out.len I.out.cap)
        have LV := Lib.hid SL
        have HB2 := Lib.hid hb
        clear ht T1 SL hb hpos
        go_wp2_with fail
        refine TL.mono ?_
        rintro e w2 ⟨rfl, rfl⟩
        clear TL hcell
        go_wp2_with fail
        go_loopw [8] (fun x wx => ∃ j : Nat, j ≤ l.length ∧ x = .int .i64 j ∧ Hid (segsE K' eps l = segsE K' eps (l.drop j) ∧ Below w.heap.size w wx ∧ Below wr.heap.size wr wx)) (fun x _ => l.length - (intOf x).toNat)
        case atStart => exact ⟨0, Nat.zero_le _, rfl, Lib.hid ⟨rfl, I.out.bel, Below.refl _ _⟩⟩
        case round =>
          obtain ⟨wi, rfl⟩ : ∃ wi : World, wi = wr := ⟨_, rfl⟩
          obtain ⟨j, hj', rfl, J⟩ := hrel
          have hcell := HC.out _ J.out.2.1
          by_cases hjl : j < l.length
          · have j0 : (0 : Int) ≤ (j : Int) := by omega
            have j1 : (j : Int) < (l.length : Int) := by omega
            obtain ⟨b5, o5, rfl, hb5, hc5⟩ := (SA0.out.below J.out.2.1) (by omega)
            obtain ⟨s0, s1, s2, s3, s4⟩ := hc5 j hjl
            obtain ⟨s, hs⟩ : ∃ s, l.getD j zS = s := ⟨_, rfl⟩
            have hsm := mem_getD hjl hs
            have SK := SO.out s hsm
            have UPs := UP.out s hsm
            have Q1 := Lib.hid (fun cc h1 h2 => J.out.1.trans (segsE_bad (K := K') (eps := eps) (c := cc) hjl hs h1 h2))
            have Q2 := Lib.hid (fun h => J.out.1.trans (segsE_step (K := K') (eps := eps) hjl hs h))
            have hl2 := LV.out
            have v1 : wrap64 ((j : Int) + 1) = (j : Int) + 1 := by unfold wrap64; omega
            have S0 := Lib.hid (show KR w wr wi s (wi.alloc (.cells s.c 33)) from ⟨⟨s.blk wi, below_new J.out.2.2 _⟩, below_new J.out.2.1 _, below_new (Below.refl _ _) _⟩)
            have CK := fun w' => refCheck_any s SK w'
            rw [hs] at s0 s1 s2 s3 s4
            clear hc5 hs hsm hl2
            by_cases hk : chk s = 0
            · rw [hk] at CK
              have HR := chk_right.1 hk
              obtain ⟨p, hp⟩ := Int.eq_ofNat_of_zero_le HR.fr
              obtain ⟨t, ht⟩ := Int.eq_ofNat_of_zero_le (show 0 ≤ s.up by have := HR.fr; have := HR.hto; omega)
              have hpt : p < t := by have := HR.hto; omega
              have htl : t ≤ K'.length := by omega
              obtain ⟨first, sl, ic, fr, up⟩ := s
              simp only [] at hp ht s0 s1 s2 s3 s4
              subst hp ht
              have hc' := LN'.out.2
              have E83 := Lib.hid (fun h => T2.out 83 HT.out (Q1.out 83 (segE_first hk h) (by decide)) (by decide))
              have E85 := Lib.hid (fun h h' => T2.out 85 HT.out (Q1.out 85 (segE_off hk h h') (by decide)) (by decide))
              have E0 := Lib.hid (fun h h' => Q2.out (segE_ok hk h h'))
              have SKH := Lib.hid SK
              obtain ⟨b6, o6, rfl, hb6, hc6⟩ := (I.out.arg.below J.out.2.2) (by omega)
              have hkc : K'[p]'(by omega) = K'.getD p 0 := by rw [List.getD_eq_getElem?_getD, List.getElem?_eq_getElem (by omega)]; rfl
              have KC : ∀ w', Below wi.heap.size wi w' → w'.cell? ⟨b6, o6 + p, none⟩ = some (.int .u64 (K'.getD p 0)) := fun w' k => (k.cell (p := ⟨b6, _, none⟩) hb6).trans ((hc6 p (by omega)).trans (by rw [hkc]))
              have KH := Lib.hid KC
              have AH := Lib.hid (I.out.arg.below J.out.2.2)
              simp only [Int.toNat_natCast] at E83 E85 E0
              obtain ⟨k0, hk0⟩ : ∃ k0, K'.getD p 0 = k0 := ⟨_, rfl⟩
              rw [hk0] at KH E83 E85 E0
              unfold Sg.v at CK
              unfold Sg.c at S0
              simp only [] at CK S0
              clear hk HR SK hc6 hkc KC Q1 Q2 hk0
              go_wp2_with fail
              refine (CK _).mono ?_
              rintro e w3 ⟨rfl, b3⟩
              have S1 := Lib.hid (S0.out.below b3)
              clear b3 CK S0 hcell s0 s1 s2 s3 s4
              obtain ⟨_, c0, c1, c2, c3, c4⟩ := S1.out.all
              have ck := KH.out _ S1.out.bb
              have p0 : (0 : Int) ≤ (p : Int) := by omega
              have p1 : (p : Int) < (K'.length : Int) := by omega
              have p1' : p < K'.length := by omega
              by_cases hf : first = k0
              · have f1 : (first != k0) = false := by simp [hf]
                go_wp2_with fail
                go_quiet (fail)
                have S2 := Lib.hid (S1.out.drewN nq)
                clear c0 c1 c2 c3 c4 ck
                generalize w3.drewN nq = wd at *
                obtain ⟨_, c0, c1, c2, c3, c4⟩ := S2.out.all
                have O1 := Lib.hid hf
                have OFF := fun w' hA' => refOff_any ⟨first, sl, ic, (p : Int), (t : Int)⟩ SKH.out (some ⟨b6, o6 + p, none⟩) (c' - p) (stretch K' p t) (OK'.out.stretch _ _) (by rw [stretch_len htl]; have := LN'.out.1; omega) w' hA'
                rw [stretch_len htl] at OFF
                have OF := fun w' (k : Below wi.heap.size wi w') => OFF w' ((AH.out.below k).stretch p t)
                have E85' := Lib.hid (E85.out hf)
                have E0' := Lib.hid (E0.out hf)
                obtain ⟨r1, hr1⟩ : ∃ r1, (offI ⟨first, sl, ic, (p : Int), (t : Int)⟩ (stretch K' p t)).1 = r1 := ⟨_, rfl⟩
                obtain ⟨r2, hr2⟩ : ∃ r2, (offI ⟨first, sl, ic, (p : Int), (t : Int)⟩ (stretch K' p t)).2 = r2 := ⟨_, rfl⟩
                rw [hr1] at OF E85' E0'
                rw [hr2] at OF
                unfold Sg.v at OF
                simp only [] at OF
                have q1 : (p : Int) ≤ (t : Int) := by omega
                have q2 : (t : Int) ≤ (c' : Int) := by omega
                have q3 : p < c' := by omega
                have q4 : (p : Int) < (c' : Int) := by omega
                have q5 : t ≤ c' := by omega
                have q6 : p ≤ t := by omega
                have q7 : ¬ c' = p := by omega
                have OFH := Lib.hid OF
                clear OFF hr1 hr2 hf f1 OF
                go_wp2_with fail
                go_region_held3 (fun w' => KR w wr wi ⟨first, sl, ic, (p : Int), (t : Int)⟩ w' ∧ w'.cell? ⟨wi.heap.size, 0, none⟩ = some (.int .u64 first) ∧ w'.cell? ⟨wi.heap.size, 1, none⟩ = some (.float .f64 sl) ∧ w'.cell? ⟨wi.heap.size, 2, none⟩ = some (.float .f64 ic) ∧ w'.cell? ⟨wi.heap.size, 3, none⟩ = some (.int .i64 (p : Int)) ∧ w'.cell? ⟨wi.heap.size, 4, none⟩ = some (.int .i64 (t : Int)))
                  (first | exact S2.out.drew.all | exact HB9.out.all | go_keep)
                  (first | (go_at_call 53; (with_reducible refine (OFH.out _ (‹KR _ _ _ _ _ ∧ _›).1.bb).mono ?_); rintro e5 w5 ⟨rfl, b5⟩; have HB9 := Lib.hid ((‹KR _ _ _ _ _ ∧ _›).1.below b5)))
                have C6 := Lib.hid HB9.out.bel
                have J9 := Lib.hid (below_next J.out.2.2 HB9.out.bb)
                by_cases ho : r1 ≤ eps
                · have EN := Lib.hid (E0'.out (by omega))
                  have ho' : ¬ eps < r1 := by omega
                  go_wp2_with fail
                  go_roundw
                  case rel => exact ⟨j + 1, by omega, by go_num, Lib.hid ⟨EN.out, C6.out, J9.out⟩⟩
                  case measure => first | exact meas_next hjl | (rw [v1]; exact meas_next hjl)
                · have EE := Lib.hid (E85'.out (by omega))
                  have ho' : eps < r1 := by omega
                  go_wp2_with fail
                  go_ret
                  exact ⟨by rw [EE.out]; rfl, C6.out⟩
              · have f1 : (first != k0) = true := by simp [hf]
                have EE := Lib.hid (E83.out hf)
                clear hf
                go_wp2_with fail
                go_quiet (fail)
                go_wp2_with fail
                go_ret
                exact ⟨by rw [EE.out]; rfl, (S1.out.drewN nq).bel⟩
            · obtain ⟨ck, hck⟩ : ∃ ck, chk s = ck := ⟨_, rfl⟩
              have EE := Lib.hid (T2.out ck HT.out (Q1.out ck (segE_chk hck (hck ▸ hk)) (hck ▸ hk)) (hck ▸ hk))
              rw [hck] at CK hk
              have z0 : (ck != 0) = true := by rw [bne_iff_ne]; exact hk
              have z1 : (ck == 0) = false := by rw [beq_eq_false_iff_ne]; exact hk
              obtain ⟨first, sl, ic, fr, up⟩ := s
              simp only [] at s0 s1 s2 s3 s4
              unfold Sg.v at CK
              unfold Sg.c at S0
              simp only [] at CK S0
              clear hck hk Q1 Q2 SK
              go_wp2_with fail
              refine (CK _).mono ?_
              rintro e w3 ⟨rfl, b3⟩
              have C4 := Lib.hid (S0.out.below b3)
              clear b3
              go_wp2_with fail
              go_ret
              exact ⟨by rw [EE.out]; rfl, C4.out.bel⟩
          · have SE := Lib.hid (J.out.1.trans (segsE_end hjl))
            obtain rfl : j = l.length := by omega
            have j1 : ¬ (l.length : Int) < (l.length : Int) := by omega
            have FA := refFirsts_any A2 c2 l LV.out _ (SA0.out.below J.out.2.1)
            have NX := Lib.hid (T3.out HT.out SE.out)
            have hN2 := HN.out
            have v1 : wrap64 ((i : Int) + 1) = (i : Int) + 1 := by unfold wrap64; omega
            clear hjl hN2
            go_wp2_with fail
            refine FA.mono ?_
            rintro e w4 ⟨v, rfl, hF⟩
            obtain ⟨A4, c4, rfl, hA4, hc4⟩ := hF.arg
            have I4 : Hid (OQ w eps K ll A4 c4 (firstsL l) (i + 1) w4) := Lib.hid ⟨hA4, firsts_ok SO.out, by rw [firsts_len]; exact LV.out, hc4, below_next J.out.2.1 hF.bel, NX.out, by rw [firsts_len]; exact LP.out, fun _ => by rw [firsts_len, Nat.add_sub_cancel, HLL.out]⟩
            clear hF hA4 hc4 FA
            go_wp2_with fail
            go_roundw
            case rel => exact ⟨i + 1, firstsL l, A4, c4, by omega, rfl, by go_num, I4⟩
            case measure => first | exact meas_next hlt | (rw [v1]; exact meas_next hlt)
      · have hf : tl K'.length 0 l = false := by simpa using ht
        rw [hf] at TL
        have E := Lib.hid (T1.out hf)
        clear ht hf T2 T3 T1
        go_wp2_with fail
        refine TL.mono ?_
        rintro e wx ⟨rfl, rfl⟩
        go_wp2_with fail
        go_ret
        exact ⟨by rw [E.out]; rfl, I.out.bel⟩
    · have E := Lib.hid (I.out.eq.trans (levE_end hlt))
      obtain rfl : i = ll.length := by omega
      have i1 : ¬ (ll.length : Int) < (ll.length : Int) := by omega
      have i2 : (0 : Int) < (ll.length : Int) := by omega
      obtain ⟨b, o, rfl, hb, hc⟩ := HB.out (by omega)
      obtain ⟨n1, hn1⟩ : ∃ n1, ll.length - 1 = n1 := ⟨_, rfl⟩
      have hN2 := HN.out
      have v1 : wrap64 ((ll.length : Int) - 1) = (n1 : Int) := by unfold wrap64; omega
      have n0 : (0 : Int) ≤ (n1 : Int) := by omega
      have n2 : (n1 : Int) < (ll.length : Int) := by omega
      obtain ⟨A2, c2, hcell0, hseg0⟩ := hc n1 (by omega)
      have hcell := (I.out.bel.cell (p := ⟨b, _, none⟩) hb).trans hcell0
      have PV := I.out.prev hz1
      rw [hn1] at PV
      rw [← PV] at hcell
      clear hlt hc hn1 hN2 PV hcell0 hseg0
      by_cases hk : K'.length = 1
      · have E2 := Lib.hid (E.out.trans (if_pos hk))
        have k1 : ((K'.length : Int) != 1) = false := by rw [hk]; rfl
        clear hk E
        go_wp2_with fail
        go_ret
        exact ⟨by rw [E2.out]; rfl, I.out.bel⟩
      · have E2 := Lib.hid (E.out.trans (if_neg hk))
        have k1 : ((K'.length : Int) != 1) = true := by rw [bne_iff_ne]; omega
        have k2 : ((K'.length : Int) == 1) = false := by rw [beq_eq_false_iff_ne]; omega
        clear hk E
        go_wp2_with fail
        go_ret
        exact ⟨by rw [E2.out]; rfl, I.out.bel⟩
end Go.Proofs.Ytnccgpdniigekaa
/-
  The reference's Check, whole.
-/
namespace Go.Proofs.Ytnccgpdniigekaa
open Go.RowKit
set_option linter.unusedVariables false
set_option linter.unusedSimpArgs false
attribute [local go_sem high] run_store_float

set_option maxRecDepth 100000 in
theorem rcheck_empty (A : Option Addr) (c : Nat) (eps : Int) (h1 : 2 ≤ eps) (h2 : eps ≤ 64) (B : Option Addr) (d : Nat) (hm : 0 ≤ mhI 4294967296 eps) (w : World) :
    Calls Try.prog 22 #[.slice A 0 c, .int .i64 eps, .slice B 0 d] w fun e w' => e = .returned (.int .i64 0) ∧ Below w.heap.size w w' := by
  have MH := fun w' => refMaxHeight_any 4294967296 eps (by decide) w'
  have R := ref_Rising A c [] (by simp) w (fun h => absurd h (by simp))
  rw [decide_eq_true List.Pairwise.nil] at R
  simp only [List.length_nil] at R
  have a1 : ¬ eps < 2 := by omega
  have a2 : ¬ 64 < eps := by omega
  generalize mhI 4294967296 eps = m at *
  have a3 : ¬ m < 0 := by omega
  clear h1 h2
  go_enter Try.func22, Try.ntmps22
  go_wp2_with fail
  refine R.mono ?_
  rintro e w1 ⟨rfl, b1⟩
  have B1 := Lib.hid b1
  clear b1 R
  go_wp2_with fail
  refine (MH _).mono ?_
  rintro e wx ⟨rfl, rfl⟩
  go_wp2_with fail
  go_loopw [7] (fun x wr => x = .int .i64 0 ∧ Hid (Below w.heap.size w wr)) (fun _ _ => 0)
  case atStart => exact ⟨rfl, B1⟩
  case round =>
    obtain ⟨rfl, C2⟩ := hrel
    go_wp2_with fail
    go_ret
    exact ⟨rfl, C2.out⟩
theorem rcheck_lv (A : Option Addr) (c : Nat) (K : List Int) (eps : Int) (B : Option Addr) (d : Nat) (ll : List (List Sg)) (w : World) (h : AskC w A c K B ll) :
    Calls Try.prog 22 #[.slice A K.length c, .int .i64 eps, .slice B ll.length d] w fun e w' => e = .returned (.int .i64 (chkI K eps ll)) ∧ Below w.heap.size w w' := by
  unfold chkI
  by_cases h1 : eps < 2 ∨ 64 < eps
  · rw [if_pos h1]; exact rcheck_bad A _ c eps B _ d h1 w
  rw [if_neg h1]
  by_cases h2 : K.Pairwise (· < ·)
  · rw [if_neg (by simp [h2])]
    by_cases h3 : mhI 4294967296 eps < ll.length ∨ ¬ (ll.length = 0 ↔ K.length = 0)
    · rw [if_pos h3]; exact rcheck_high A c K eps (by omega) (by omega) h.len h2 B _ d h3 w h.arg
    · rw [if_neg h3]
      by_cases h4 : ll.length = 0
      · rw [if_pos h4, h4]
        have h5 : K.length = 0 := by
          apply Classical.byContradiction; intro hk
          exact h3 (Or.inr fun hh => hk (hh.1 h4))
        rw [h5]
        exact rcheck_empty A c eps (by omega) (by omega) B d (mh_pos (by omega) (by omega)) w
      · rw [if_neg h4]
        have h5 : 0 < K.length := by
          apply Classical.byContradiction; intro hk
          exact h3 (Or.inr fun hh => h4 (hh.2 (by omega)))
        exact rcheck_main A c K eps (by omega) (by omega) h.ok h.len h.cap h2 B d ll h.segs h.lens h.count (by omega) (by omega) h5 w h.arg h.args
  · rw [if_pos h2]; exact rcheck_unsorted A c K eps (by omega) (by omega) h.len h2 B _ d w h.arg
end Go.Proofs.Ytnccgpdniigekaa
