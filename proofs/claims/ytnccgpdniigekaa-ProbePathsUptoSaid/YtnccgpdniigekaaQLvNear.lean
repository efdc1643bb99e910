/-
  near of the law: on levels that are right it holds.
-/
import Derived.Test.YtnccgpdniigekaaQG27
import Derived.Test.YtnccgpdniigekaaQG33
namespace Go.Proofs.Ytnccgpdniigekaa
open Go.RowKit
set_option linter.unusedVariables false
set_option linter.unusedSimpArgs false
attribute [local go_sem high] run_store_float

/-- Does a key stand there. -/
def hasN (K : List Int) (q : Int) : Nat → Bool
  | 0 => false
  | n + 1 => hasN K q n || (K.getD n 0 == q)
theorem hasN_at {K : List Int} {q : Int} : ∀ {n : Nat}, hasN K q n = true → ∃ i, i < n ∧ K.getD i 0 = q
  | 0, h => by simp [hasN] at h
  | n + 1, h => by
    rw [hasN, Bool.or_eq_true, beq_iff_eq] at h
    rcases h with h | h
    · obtain ⟨i, hi, e⟩ := hasN_at h; exact ⟨i, by omega, e⟩
    · exact ⟨n, by omega, h⟩
/-- What near asks of a level. -/
structure NearAt (eps q : Int) (K : List Int) (l : List Sg) : Prop where
  pos : 0 < l.length
  ok : SgOk (l.getD (pickN l q l.length) zS)
  b1 : guess (l.getD (pickN l q l.length) zS) q - belowN K q K.length ≤ eps
  b2 : -(guess (l.getD (pickN l q l.length) zS) q - belowN K q K.length) ≤ eps + 1
  b3 : hasN K q K.length = true → -(guess (l.getD (pickN l q l.length) zS) q - belowN K q K.length) ≤ eps
def NearT (eps q : Int) : List Int → List (List Sg) → Prop
  | _, [] => True
  | K, l :: ll => NearAt eps q K l ∧ NearT eps q (firstsL l) ll
theorem NearT.step {eps q : Int} {K : List Int} {ll : List (List Sg)} {i : Nat} {l : List Sg} (h : NearT eps q K (ll.drop i)) (hi : i < ll.length) (hl : ll.getD i [] = l) : NearAt eps q K l ∧ NearT eps q (firstsL l) (ll.drop (i + 1)) := by
  rw [drop_at [] ll hi, hl] at h
  exact h
theorem near_lev {eps q : Int} (he : 0 ≤ eps) (hq : u64ok q) : ∀ {ll : List (List Sg)} {K : List Int}, levE eps ll K = 0 → (∀ l ∈ ll, ∀ s ∈ l, SgOk s) → U64s K → K.Pairwise (· < ·) → 0 < K.length → NearT eps q K ll
  | [], K, _, _, _, _, _ => trivial
  | l :: ll, K, h, hs, hU, hu, h0 => by
    obtain ⟨h1, h2, h3⟩ := levE_cons h
    have L : Lev K eps l := ⟨h1, h2, hs l (by simp), hU, hu⟩
    have hl := tl_pos (by omega) h1
    have S := pick_stands L (q := q) hl
    obtain ⟨b1, b2, b3⟩ := S.near L he hq
    refine ⟨⟨hl, L.sg _ (mem_getD S.lt rfl), b1, b2, fun hh => ?_⟩, near_lev he hq h3 (fun m hm => hs m (by simp [hm])) L.ok' L.up' (by rw [firsts_len]; exact hl)⟩
    obtain ⟨i, hi, e⟩ := hasN_at hh
    exact b3 i hi e
theorem chk_zero {K : List Int} {eps : Int} {ll : List (List Sg)} (h : chkI K eps ll = 0) : 2 ≤ eps ∧ eps ≤ 64 ∧ K.Pairwise (· < ·) ∧ (ll.length : Int) ≤ mhI 4294967296 eps ∧ (ll.length = 0 ↔ K.length = 0) ∧ (0 < ll.length → levE eps ll K = 0) := by
  unfold chkI at h
  by_cases h1 : eps < 2 ∨ 64 < eps
  · rw [if_pos h1] at h; omega
  rw [if_neg h1] at h
  by_cases h2 : K.Pairwise (· < ·)
  · rw [if_neg (by simp [h2])] at h
    by_cases h3 : mhI 4294967296 eps < ll.length ∨ ¬ (ll.length = 0 ↔ K.length = 0)
    · rw [if_pos h3] at h; omega
    · rw [if_neg h3] at h
      have h5 : (ll.length = 0 ↔ K.length = 0) := by
        apply Classical.byContradiction; intro hh; exact h3 (.inr hh)
      have h6 : ¬ mhI 4294967296 eps < ll.length := fun hh => h3 (.inl hh)
      refine ⟨by omega, by omega, h2, by omega, h5, fun hl => ?_⟩
      rwa [if_neg (by omega)] at h
  · rw [if_pos h2] at h; omega
theorem near_chk {K : List Int} {eps q : Int} {ll : List (List Sg)} (h : chkI K eps ll = 0) (hq : u64ok q) (hU : U64s K) (hs : ∀ l ∈ ll, ∀ s ∈ l, SgOk s) : NearT eps q K ll := by
  obtain ⟨h1, h2, h3, h4, h5, h6⟩ := chk_zero h
  by_cases h0 : 0 < ll.length
  · exact near_lev (by omega) hq (h6 h0) hs hU h3 (by omega)
  · have : ll = [] := List.eq_nil_of_length_eq_zero (by omega)
    subst this; trivial

/-- What the loop over a level keeps: the keys gathered, the segment that stands. -/
structure NI (w : World) (b : Nat) (v : Value) (L : List Int) (s : Sg) (wr : World) : Prop where
  fr : FR w v L wr
  blk : Blk wr b 33 s.c
  ge : w.heap.size ≤ b
theorem FR.base {w w1 wr : World} {v : Value} {L : List Int} (k : Below w.heap.size w w1) (h : FR w1 v L wr) : FR w v L wr := ⟨h.own, fun g hg => Nat.le_trans k.size (h.new g hg), below_next k h.bel⟩
theorem NI.start {w wr : World} (k : Below w.heap.size w wr) (s : Sg) : NI w wr.heap.size (.slice (some ⟨wr.heap.size + 1, 0, none⟩) 0 0) [] s ((wr.alloc (.cells s.c 33)).alloc (.cells #[] 24)) := by
  have h1 := FR.start (wr.alloc (.cells s.c 33))
  have e : (wr.alloc (.cells s.c 33)).heap.size = wr.heap.size + 1 := by simp
  rw [e] at h1
  exact ⟨FR.base (below_new k _) h1, (Blk.new _ _ _).alloc _, k.size⟩
theorem NI.put {w wr : World} {b : Nat} {v : Value} {L : List Int} {s : Sg} (h : NI w b v L s wr) (t : Sg) :
    NI w b v L t (((((wr.setCell ⟨b, 0, none⟩ (.int .u64 t.first)).setCell ⟨b, 1, none⟩ (.float .f64 t.sl)).setCell ⟨b, 2, none⟩ (.float .f64 t.ic)).setCell ⟨b, 3, none⟩ (.int .i64 t.fr)).setCell ⟨b, 4, none⟩ (.int .i64 t.up)) := by
  have C : Chg (fun k => k = b) wr (((((wr.setCell ⟨b, 0, none⟩ (.int .u64 t.first)).setCell ⟨b, 1, none⟩ (.float .f64 t.sl)).setCell ⟨b, 2, none⟩ (.float .f64 t.ic)).setCell ⟨b, 3, none⟩ (.int .i64 t.fr)).setCell ⟨b, 4, none⟩ (.int .i64 t.up)) :=
    (((((Chg.refl (fun k => k = b) wr).setCell (p := ⟨b, _, none⟩) (fun _ => rfl) _).setCell (p := ⟨b, _, none⟩) (fun _ => rfl) _).setCell (p := ⟨b, _, none⟩) (fun _ => rfl) _).setCell (p := ⟨b, _, none⟩) (fun _ => rfl) _).setCell (p := ⟨b, _, none⟩) (fun _ => rfl) _
  have hne := own_ne_blk h.fr.own h.blk (by decide)
  refine ⟨⟨own_chg h.fr.own C (fun g hg hb => hne (by rw [hg, hb])), h.fr.new, below_chg h.fr.bel C (fun k _ hk => by rw [hk]; exact h.ge) h.fr.bel.size⟩, ?_, h.ge⟩
  have := ((((h.blk.set 0 (.int .u64 t.first)).set 1 (.float .f64 t.sl)).set 2 (.float .f64 t.ic)).set 3 (.int .i64 t.fr)).set 4 (.int .i64 t.up)
  exact this
theorem NI.grown {w wr w1 : World} {b : Nat} {v : Value} {L : List Int} {s : Sg} {x : Int} {o : Obj} {g cap n : Nat} (h : NI w b v L s wr) (hn : L.length = n)
    (hown : w1.ownsRow 0 24 1 (.slice (some ⟨g, 0, none⟩) (n + 1) cap) (n + 1) (L.map (Value.int .u64) ++ [.int .u64 x]))
    (hgr : (wr.alloc o).grownBy w1 v.ownBlock) (hat : v.ownBlock = some g ∨ g = wr.heap.size + 1) : NI w b (.slice (some ⟨g, 0, none⟩) (n + 1) cap) (L ++ [x]) s w1 := by
  have hne := own_ne_blk h.fr.own h.blk (by decide)
  have C : Chg (fun k => v.ownBlock = some k) wr w1 := ((Chg.refl _ wr).alloc o).grown hgr (fun k hk _ => hk)
  exact ⟨h.fr.grown hn hown hgr hat, h.blk.chg C hne, h.ge⟩
theorem NI.cells {w wr : World} {b : Nat} {v : Value} {L : List Int} {a : Int} {x y : Nat} {d e : Int} (h : NI w b v L ⟨a, x, y, d, e⟩ wr) : wr.cell? ⟨b, 0, none⟩ = some (.int .u64 a) ∧ wr.cell? ⟨b, 1, none⟩ = some (.float .f64 x) ∧ wr.cell? ⟨b, 2, none⟩ = some (.float .f64 y) ∧ wr.cell? ⟨b, 3, none⟩ = some (.int .i64 d) ∧ wr.cell? ⟨b, 4, none⟩ = some (.int .i64 e) :=
  ⟨h.blk.cell 0, h.blk.cell 1, h.blk.cell 2, h.blk.cell 3, h.blk.cell 4⟩
/-- What near's loop over the levels keeps. -/
structure NO (w : World) (eps q : Int) (ll : List (List Sg)) (A' : Option Addr) (K' : List Int) (i : Nat) (wr : World) : Prop where
  arg : ArgU wr A' K'
  len : K'.length ≤ 17592186044416
  bel : Below w.heap.size w wr
  rest : NearT eps q K' (ll.drop i)
theorem pick_at (l : List Sg) (q : Int) {k : Nat} {s : Sg} (hs : l.getD k zS = s) : (s.first ≤ q → l.getD (pickN l q (k + 1)) zS = s) ∧ (¬ s.first ≤ q → pickN l q (k + 1) = pickN l q k) :=
  ⟨fun h => by rw [pickN, if_pos (by rw [hs]; exact h), hs], fun h => by rw [pickN, if_neg (by rw [hs]; exact h)]⟩

set_option maxHeartbeats 16000000 in
set_option maxRecDepth 100000 in
theorem near8_any (A : Option Addr) (c : Nat) (K : List Int) (hn : K.length ≤ 17592186044416) (eps : Int) (B : Option Addr) (d : Nat) (ll : List (List Sg)) (q : Int) (hT : NearT eps q K ll) (he1 : 2 ≤ eps) (he2 : eps ≤ 64) (hq : u64ok q)
    (hln : ∀ l ∈ ll, l.length ≤ 17592186044416) (hll : ll.length ≤ 17592186044416) (w : World) (hA : ArgU w A K) (hB : ArgSS w B ll) :
    Calls Try.prog 27 #[.slice A K.length c, .int .i64 eps, .slice B ll.length d, .int .u64 q] w fun e w' => e = .returned (.bool true) ∧ Below w.heap.size w w' := by
  obtain ⟨iu, hiu, hu0, hu1, hu2⟩ := info_parts infoU
  have I0 : Hid (NO w eps q ll A K 0 w) := Lib.hid ⟨hA, hn, Below.refl _ _, hT⟩
  have HB := Lib.hid hB
  have HL := Lib.hid hln
  have HN := Lib.hid hll
  have HQ := Lib.hid hq
  clear hA hB hn hT hln hll hq
  go_enter Try.func27, Try.ntmps27
  go_wp2_with fail
  go_loopw [0, 9] (fun x y wr => ∃ (i : Nat) (K' : List Int) (A' : Option Addr) (c' : Nat), i ≤ ll.length ∧ x = .slice A' K'.length c' ∧ y = .int .i64 i ∧ Hid (NO w eps q ll A' K' i wr)) (fun _ y _ => ll.length - (intOf y).toNat)
  case atStart => exact ⟨0, K, A, c, Nat.zero_le _, rfl, rfl, I0⟩
  case round =>
    obtain ⟨i, K', A', c', hi', rfl, rfl, I⟩ := hrel
    clear I0
    by_cases hlt : i < ll.length
    · have i0' : (0 : Int) ≤ (i : Int) := by omega
      have i1 : (i : Int) < (ll.length : Int) := by omega
      obtain ⟨b, o, rfl, hb, hc⟩ := HB.out (by omega)
      obtain ⟨A2, c2, hcell0, hseg0⟩ := hc i hlt
      obtain ⟨l, hl⟩ : ∃ l, ll.getD i [] = l := ⟨_, rfl⟩
      rw [hl] at hcell0 hseg0
      obtain ⟨NA, NT⟩ := I.out.rest.step hlt hl
      have hpos := NA.pos
      obtain ⟨b2, o2, rfl, hb2, hc2⟩ := hseg0 hpos
      have X := Lib.hid (show ∀ w', Below w.heap.size w w' → w'.cell? ⟨b, o + i, none⟩ = some (.slice (some ⟨b2, o2, none⟩) l.length c2) ∧ ∀ k, k < l.length → SegAt w' b2 (o2 + k * 5) (l.getD k zS) from fun w' k => ⟨(k.cell (p := ⟨b, _, none⟩) hb).trans hcell0, fun j hj => (hc2 j hj).below k hb2⟩)
      have LLn := Lib.hid (HL.out l (mem_getD hlt hl))
      have NA' := Lib.hid NA
      have NT' := Lib.hid NT
      obtain ⟨xa, xs⟩ := X.out _ I.out.bel
      obtain ⟨s0, s1, s2, s3, s4⟩ := xs 0 hpos
      have N0 := Lib.hid (NI.start (Below.refl wr.heap.size wr) (l.getD 0 zS))
      have M0 := Lib.hid (show l.getD (pickN l q 0) zS = l.getD 0 zS from rfl)
      simp only [Nat.zero_mul, Nat.add_zero] at s0 s1 s2 s3 s4
      obtain ⟨⟨f0, l0, c0, r0, p0⟩, hz⟩ : ∃ s, l.getD 0 zS = s := ⟨_, rfl⟩
      rw [hz] at s0 s1 s2 s3 s4 N0 M0
      unfold Sg.c at N0
      simp only [] at s0 s1 s2 s3 s4 N0
      have hpos' : (0 : Int) < (l.length : Int) := by omega
      clear hc hc2 hcell0 hseg0 hl NA NT xs hz hb hb2
      go_wp2_with fail
      go_loopw [11, 12] (fun v x wx => ∃ k : Nat, k ≤ l.length ∧ x = .int .i64 k ∧ Hid (NI wr wr.heap.size v ((firstsL l).take k) (l.getD (pickN l q k) zS) wx)) (fun _ x _ => l.length - (intOf x).toNat)
      case atStart => exact ⟨0, Nat.zero_le _, rfl, Lib.hid (by rw [M0.out]; exact N0.out)⟩
      case round =>
        obtain ⟨wi, rfl⟩ : ∃ wi : World, wi = wr := ⟨_, rfl⟩
        obtain ⟨k, hk', rfl, J⟩ := hrel
        clear N0 M0 xa s0 s1 s2 s3 s4
        have JB := Lib.hid (below_next I.out.bel J.out.fr.bel)
        obtain ⟨xa, xs⟩ := X.out _ JB.out
        by_cases hkl : k < l.length
        · have k0 : (0 : Int) ≤ (k : Int) := by omega
          have k1 : (k : Int) < (l.length : Int) := by omega
          obtain ⟨t0, t1, t2, t3, t4⟩ := xs k hkl
          obtain ⟨s, hs⟩ : ∃ s, l.getD k zS = s := ⟨_, rfl⟩
          obtain ⟨PK1, PK2⟩ := pick_at l q hs
          have TK := Lib.hid (firsts_take hkl hs)
          have LT : ((firstsL l).take k).length = k := by rw [List.length_take, firsts_len]; omega
          have hl2 := LLn.out
          obtain ⟨so, ho⟩ : ∃ s, l.getD (pickN l q k) zS = s := ⟨_, rfl⟩
          have J' := J
          rw [ho] at J'
          obtain ⟨L, hL⟩ : ∃ L, (firstsL l).take k = L := ⟨_, rfl⟩
          rw [hL] at J' TK LT
          have LN : L.length + 1 ≤ 17592186044416 := by omega
          have HS := Lib.hid hs
          clear J xs hL LT
          by_cases hq : s.first ≤ q
          · rw [hs] at t0 t1 t2 t3 t4
            have JP := Lib.hid (J'.out.put s)
            have M2 := Lib.hid (PK1 hq)
            obtain ⟨e0, e1, e2, e3, e4⟩ := so
            obtain ⟨d0, d1, d2, d3, d4⟩ := J'.out.cells
            have g0 := J'.out.blk.free 0; have g1 := J'.out.blk.free 1; have g2 := J'.out.blk.free 2; have g3 := J'.out.blk.free 3; have g4 := J'.out.blk.free 4
            obtain ⟨first, sl, ic, fr, up⟩ := s
            simp only [] at t0 t1 t2 t3 t4 hq TK JP
            clear PK1 PK2 hs ho
            go_upto_region 11 with fail
            obtain ⟨wy, hwy⟩ : ∃ wy, wy = (((((wi.setCell ⟨wr.heap.size, 0, none⟩ (.int .u64 first)).setCell ⟨wr.heap.size, 1, none⟩ (.float .f64 sl)).setCell ⟨wr.heap.size, 2, none⟩ (.float .f64 ic)).setCell ⟨wr.heap.size, 3, none⟩ (.int .i64 fr)).setCell ⟨wr.heap.size, 4, none⟩ (.int .i64 up)) := ⟨_, rfl⟩
            rw [← hwy] at JP ⊢
            clear hwy t0 t1 t2 t3 t4 xa d0 d1 d2 d3 d4 g0 g1 g2 g3 g4 J'
            obtain ⟨xa, xs⟩ := X.out _ (below_next I.out.bel JP.out.fr.bel)
            have t0 := (xs k hkl).1
            rw [HS.out] at t0
            simp only [] at t0
            clear xs
            have HO1 : Hid ((wy.alloc (.cells #[.int .u64 first] 24)).ownsRow 0 24 1 u11 L.length (L.map (Value.int .u64))) := Lib.hid (own_chg JP.out.fr.own ((Chg.refl (fun _ => False) wy).alloc _) (fun _ _ h => h))
            have HFO : Hid (∀ u ∈ ([.int .u64 first] : List Value), u.oneCell' = true) := Lib.hid (by intro u hu; simp at hu; rcases hu with rfl; rfl)
            go_wp2_with (at_builtin; go_loud (refine wpList_append_lies _ rfl (.tmp 56) (.tmp 65) 22 (by rfl) 0 24 iu _ 1 8 Try.underlying22 hiu hu0 hu1 hu2 rfl (by omega) u11 L.length (L.map (Value.int .u64)) (by rfl) HO1.out ⟨wy.heap.size, 0, none⟩ 1 1 [.int .u64 first] (by rfl) (by rfl) (World.news_of_block (Blk.new wy 24 #[.int .u64 first])) HFO.out (by omega) (by unfold maxLen; omega) (by omega) (Nat.zero_le _) (wy.heap.size + 1) (by simp) ?_; intro gn capn wn hown hgr hat hltn; have HG2 := Lib.hid (JP.out.grown rfl hown hgr hat); clear hown hgr hat hltn))
            go_roundw
            case rel => exact ⟨k + 1, Nat.succ_le_of_lt hkl, by go_num, by rw [← TK.out, M2.out]; exact HG2⟩
            case measure => exact meas_next hkl
          · rw [hs] at t0 t1 t2 t3 t4
            have JP := Lib.hid J'.out
            have M2 := Lib.hid ((congrArg (fun j => l.getD j zS) (PK2 hq)).trans ho)
            obtain ⟨first, sl, ic, fr, up⟩ := s
            simp only [] at t0 t1 t2 t3 t4 hq TK
            clear PK1 PK2 hs ho J'
            have HO1 : Hid ((wi.alloc (.cells #[.int .u64 first] 24)).ownsRow 0 24 1 u11 L.length (L.map (Value.int .u64))) := Lib.hid (own_chg JP.out.fr.own ((Chg.refl (fun _ => False) wi).alloc _) (fun _ _ h => h))
            have HFO : Hid (∀ u ∈ ([.int .u64 first] : List Value), u.oneCell' = true) := Lib.hid (by intro u hu; simp at hu; rcases hu with rfl; rfl)
            go_wp2_with (at_builtin; go_loud (refine wpList_append_lies _ rfl (.tmp 56) (.tmp 65) 22 (by rfl) 0 24 iu _ 1 8 Try.underlying22 hiu hu0 hu1 hu2 rfl (by omega) u11 L.length (L.map (Value.int .u64)) (by rfl) HO1.out ⟨wi.heap.size, 0, none⟩ 1 1 [.int .u64 first] (by rfl) (by rfl) (World.news_of_block (Blk.new wi 24 #[.int .u64 first])) HFO.out (by omega) (by unfold maxLen; omega) (by omega) (Nat.zero_le _) (wi.heap.size + 1) (by simp) ?_; intro gn capn wn hown hgr hat hltn; have HG2 := Lib.hid (JP.out.grown rfl hown hgr hat); clear hown hgr hat hltn))
            go_roundw
            case rel => exact ⟨k + 1, Nat.succ_le_of_lt hkl, by go_num, by rw [← TK.out, M2.out]; exact HG2⟩
            case measure => exact meas_next hkl
        · obtain rfl : k = l.length := by omega
          have k1 : ¬ (l.length : Int) < (l.length : Int) := by omega
          have TA : (firstsL l).take l.length = firstsL l := List.take_of_length_le (by rw [firsts_len]; exact Nat.le_refl _)
          rw [TA] at J
          obtain ⟨n1, n2, n3, n4, n5⟩ := NA'.out
          obtain ⟨s, ho⟩ : ∃ s, l.getD (pickN l q l.length) zS = s := ⟨_, rfl⟩
          rw [ho] at J n2 n3 n4 n5
          have GS := fun w' => guess_any s n2 q HQ.out w'
          have GB := guess_bounds s q
          generalize guess s q = gz at *
          have rk1 := belowN_le K' q K'.length
          have KL := I.out.len
          have NB := Lib.hid (And.intro n3 (And.intro n4 n5))
          obtain ⟨first, sl, ic, fr, up⟩ := s
          unfold Sg.v at GS
          simp only [] at GS
          have LLN := Lib.hid (And.intro rk1 KL)
          have GB2 := Lib.hid GB
          clear TA ho xs n1 n2 n3 n4 n5 hkl rk1 KL GB
          go_wp2_with fail
          go_loopw [13, 14, 15] (fun r t x wx => ∃ k : Nat, k ≤ K'.length ∧ wx = wi ∧ x = .int .i64 k ∧ r = .int .i64 (belowN K' q k : Nat) ∧ t = .bool (hasN K' q k)) (fun _ _ x _ => K'.length - (intOf x).toNat)
          case atStart => exact ⟨0, Nat.zero_le _, rfl, rfl, rfl, rfl⟩
          case round =>
            obtain ⟨k, hk', rfl, rfl, rfl, rfl⟩ := hrel
            by_cases hkl : k < K'.length
            · have k0 : (0 : Int) ≤ (k : Int) := by omega
              have k1 : (k : Int) < (K'.length : Int) := by omega
              obtain ⟨b6, o6, rfl, hb6, hc6⟩ := (I.out.arg.below J.out.fr.bel) (by omega)
              have t0 := hc6 k hkl
              have hkc : K'[k]'hkl = K'.getD k 0 := by rw [List.getD_eq_getElem?_getD, List.getElem?_eq_getElem hkl]; rfl
              rw [hkc] at t0
              have hle := belowN_le K' q k
              have hl2 := LLN.out.2
              have S1 := Lib.hid (show belowN K' q (k + 1) = belowN K' q k + (if K'.getD k 0 < q then 1 else 0) from rfl)
              have S2 := Lib.hid (show hasN K' q (k + 1) = (hasN K' q k || (K'.getD k 0 == q)) from rfl)
              obtain ⟨kk, hkk⟩ : ∃ kk, K'.getD k 0 = kk := ⟨_, rfl⟩
              rw [hkk] at t0 S1 S2
              obtain ⟨n, hn⟩ : ∃ n, belowN K' q k = n := ⟨_, rfl⟩
              rw [hn] at hle S1 ⊢
              obtain ⟨hb, hhb⟩ : ∃ hb, hasN K' q k = hb := ⟨_, rfl⟩
              rw [hhb] at S2 ⊢
              clear hc6 hkc hkk hn hhb hb6
              by_cases hlt' : kk < q
              · have S1' := Lib.hid (S1.out.trans (by rw [if_pos hlt']))
                have c2 : (kk == q) = false := by rw [beq_eq_false_iff_ne]; omega
                rw [c2] at S2
                cases hb
                · go_wp2_with fail
                  go_roundw
                  case rel => exact ⟨k + 1, Nat.succ_le_of_lt hkl, trivial, by go_num, by first | (rw [S1'.out]; done) | (rw [S1'.out]; go_num), by rw [S2.out]; rfl⟩
                  case measure => exact meas_next hkl
                · go_wp2_with fail
                  go_roundw
                  case rel => exact ⟨k + 1, Nat.succ_le_of_lt hkl, trivial, by go_num, by first | (rw [S1'.out]; done) | (rw [S1'.out]; go_num), by rw [S2.out]; rfl⟩
                  case measure => exact meas_next hkl
              · have S1' := Lib.hid (S1.out.trans (by rw [if_neg hlt', Nat.add_zero]))
                by_cases heq : kk = q
                · have c2 : (kk == q) = true := by rw [beq_iff_eq]; exact heq
                  rw [c2] at S2
                  clear heq
                  cases hb
                  · go_wp2_with fail
                    go_roundw
                    case rel => exact ⟨k + 1, Nat.succ_le_of_lt hkl, trivial, by go_num, by first | (rw [S1'.out]; done) | (rw [S1'.out]; go_num), by rw [S2.out]; rfl⟩
                    case measure => exact meas_next hkl
                  · go_wp2_with fail
                    go_roundw
                    case rel => exact ⟨k + 1, Nat.succ_le_of_lt hkl, trivial, by go_num, by first | (rw [S1'.out]; done) | (rw [S1'.out]; go_num), by rw [S2.out]; rfl⟩
                    case measure => exact meas_next hkl
                · have c2 : (kk == q) = false := by rw [beq_eq_false_iff_ne]; exact heq
                  rw [c2] at S2
                  clear heq
                  cases hb
                  · go_wp2_with fail
                    go_roundw
                    case rel => exact ⟨k + 1, Nat.succ_le_of_lt hkl, trivial, by go_num, by first | (rw [S1'.out]; done) | (rw [S1'.out]; go_num), by rw [S2.out]; rfl⟩
                    case measure => exact meas_next hkl
                  · go_wp2_with fail
                    go_roundw
                    case rel => exact ⟨k + 1, Nat.succ_le_of_lt hkl, trivial, by go_num, by first | (rw [S1'.out]; done) | (rw [S1'.out]; go_num), by rw [S2.out]; rfl⟩
                    case measure => exact meas_next hkl
            · obtain rfl : k = K'.length := by omega
              have k1 : ¬ (K'.length : Int) < (K'.length : Int) := by omega
              obtain ⟨rk, hrk⟩ : ∃ rk, belowN K' q K'.length = rk := ⟨_, rfl⟩
              obtain ⟨hb, hhb⟩ : ∃ hb, hasN K' q K'.length = hb := ⟨_, rfl⟩
              rw [hrk, hhb] at NB
              rw [hrk] at LLN ⊢
              rw [hhb]
              obtain ⟨z1, z2, z3⟩ := NB.out
              have z4 := LLN.out.1; have z5 := LLN.out.2; have z6 := GB2.out
              obtain ⟨c0, c1, c2', c3, c4⟩ := J.out.cells
              obtain ⟨D, hD⟩ : ∃ D, gz - (rk : Int) = D := ⟨_, rfl⟩
              rw [hD] at z1 z2 z3
              have v1 : wrap64 (gz - (rk : Int)) = D := by rw [← hD]; unfold wrap64; omega
              have v2 : wrap64 (-D) = -D := by rw [← hD]; unfold wrap64; omega
              have v3 : wrap64 (eps + 1) = eps + 1 := by unfold wrap64; omega
              obtain ⟨A3, c3', rfl, hA3, hcap3⟩ := J.out.fr.arg
              have HA3 := Lib.hid hA3
              have hN2 := HN.out
              have v4 : wrap64 ((i : Int) + 1) = (i : Int) + 1 := by unfold wrap64; omega
              clear hrk hhb hkl hA3 hcap3 hN2 hD
              go_wp2_with fail
              refine (GS _).mono ?_
              rintro e w3 ⟨rfl, b3⟩
              have W3 := Lib.hid b3
              clear b3
              by_cases hneg : D < 0
              · have y1 : ¬ eps + 1 < -D := by omega
                clear z1 z2 z4 z5 z6
                cases hb
                · clear z3
                  go_wp2_with fail
                  go_roundw
                  case rel => exact ⟨i + 1, firstsL l, A3, c3', Nat.succ_le_of_lt hlt, rfl, (by first | rfl | (rw [v4]; rfl)), Lib.hid ⟨HA3.out.below W3.out, by rw [firsts_len]; exact LLn.out, below_next JB.out W3.out, NT'.out⟩⟩
                  case measure => first | (rw [v4]; exact meas_next hlt) | exact meas_next hlt
                · have y2 : ¬ eps < -D := by have := z3 rfl; omega
                  clear z3
                  go_wp2_with fail
                  go_roundw
                  case rel => exact ⟨i + 1, firstsL l, A3, c3', Nat.succ_le_of_lt hlt, rfl, (by first | rfl | (rw [v4]; rfl)), Lib.hid ⟨HA3.out.below W3.out, by rw [firsts_len]; exact LLn.out, below_next JB.out W3.out, NT'.out⟩⟩
                  case measure => first | (rw [v4]; exact meas_next hlt) | exact meas_next hlt
              · have y1 : ¬ eps + 1 < D := by omega
                have y2 : ¬ eps < D := by omega
                clear z1 z2 z3 z4 z5 z6
                cases hb
                · go_wp2_with fail
                  go_roundw
                  case rel => exact ⟨i + 1, firstsL l, A3, c3', Nat.succ_le_of_lt hlt, rfl, (by first | rfl | (rw [v4]; rfl)), Lib.hid ⟨HA3.out.below W3.out, by rw [firsts_len]; exact LLn.out, below_next JB.out W3.out, NT'.out⟩⟩
                  case measure => first | (rw [v4]; exact meas_next hlt) | exact meas_next hlt
                · go_wp2_with fail
                  go_roundw
                  case rel => exact ⟨i + 1, firstsL l, A3, c3', Nat.succ_le_of_lt hlt, rfl, (by first | rfl | (rw [v4]; rfl)), Lib.hid ⟨HA3.out.below W3.out, by rw [firsts_len]; exact LLn.out, below_next JB.out W3.out, NT'.out⟩⟩
                  case measure => first | (rw [v4]; exact meas_next hlt) | exact meas_next hlt
    · obtain rfl : i = ll.length := by omega
      have i1 : ¬ (ll.length : Int) < (ll.length : Int) := by omega
      go_wp2_with fail
      go_ret
      exact ⟨rfl, I.out.bel⟩
end Go.Proofs.Ytnccgpdniigekaa
