/-
  look over a pile: the first slot of a window that is not below.
-/
import Derived.Test.YtnccgpdniigekaaQG35
namespace Go.Proofs.Ytnccgpdniigekaa
open Go.RowKit
set_option linter.unusedVariables false
set_option linter.unusedSimpArgs false
attribute [local go_sem high] run_store_float

theorem inv_key_P (a : Option Addr) (w : World) : (method 301 63 (.pointer a) "Key").run Try.prog w = .ok (161, .pointer a) w := by kernel_rfl
set_option maxHeartbeats 4000000 in
set_option maxRecDepth 100000 in
theorem look_P {p L : Nat} {KL : List Int} (hu : KL.Pairwise (· < ·)) (hk : KL.length ≤ 17592186044416) (St : List (Nat × Nat) → World → Prop)
    (hKey : ∀ i, i < KL.length → ∀ a w, St a w → a.length < 1000000000000 → Calls Try.prog 161 #[.pointer (some ⟨p, 0, none⟩), .int .i64 (L : Int), .int .i64 (i : Int)] w fun e w' => e = .returned (.int .u64 (KL.getD i 0)) ∧ St (a ++ [(L, i)]) w')
    {lo hi to_ : Nat} (h1 : lo ≤ hi) (h2 : hi ≤ to_) (h3 : to_ ≤ KL.length) (q : Int) {a : List (Nat × Nat)} {w : World} (hS : St a w) (hl : a.length + (hi - lo) < 1000000000000) :
    Calls Try.prog 79 #[.pointer (some ⟨p, 0, none⟩), .int .i64 (L : Int), .int .i64 (lo : Int), .int .i64 (hi : Int), .int .i64 (to_ : Int), .int .u64 q] w fun e w' => e = .returned (.tuple #[.int .i64 (lookR KL q lo hi : Nat), .bool (lookT KL q lo hi to_)]) ∧ ∃ ks, Ks lo hi to_ ks ∧ St (a ++ ks.map (fun k => (L, k))) w' := by
  have HK := Lib.hid hKey
  have hm := inv_key_P
  have HU := Lib.hid hu
  have HS := Lib.hid hS
  have HAL := Lib.hid hl
  have HN := Lib.hid (And.intro hk (And.intro h1 (And.intro h2 h3)))
  clear hKey hu hk h1 h2 h3 hS hl
  go_enter Try.func79, Try.ntmps79
  go_wp2_with fail
  go_loopw [2, 3, 14, 15] (fun x y z t wr => ∃ (l h : Nat) (kn : Bool) (key : Int) (ks : List Nat), x = .int .i64 l ∧ y = .int .i64 h ∧ z = .bool kn ∧ t = .int .u64 key ∧ Hid (LkI KL q lo hi l h kn key ks) ∧ Hid (St (a ++ ks.map (fun k => (L, k))) wr)) (fun x y _ _ _ => (intOf y).toNat - (intOf x).toNat)
  case atStart =>
    exact ⟨lo, hi, false, 0, [], rfl, rfl, rfl, rfl, Lib.hid (LkI.start HN.out.2.1), by simpa using HS⟩
  case round =>
    obtain ⟨l, h, kn, key, ks, rfl, rfl, rfl, rfl, I, SS⟩ := hrel
    clear HS
    by_cases hlt : l < h
    · have i0 : (l : Int) < (h : Int) := Int.ofNat_lt.2 hlt
      have hh : h ≤ KL.length := Nat.le_trans I.out.d (Nat.le_trans HN.out.2.2.1 HN.out.2.2.2)
      obtain ⟨mid, m1, m2, m3, m4, m5, m6⟩ := mid_num (n := 0) hlt (Nat.le_trans hh HN.out.1)
      have KC := HK.out mid (Nat.lt_of_lt_of_le m3 hh) _ _ SS.out (by rw [List.length_append, List.length_map]; exact ask_short I.out.cnt HAL.out)
      have UP := Lib.hid (look_up HU.out (q := q) I.out.a I.out.d m2 m3 (Nat.le_trans HN.out.2.2.1 HN.out.2.2.2))
      obtain ⟨k, hk⟩ : ∃ k, KL.getD mid 0 = k := ⟨_, rfl⟩
      have HKK := Lib.hid hk
      rw [hk] at KC UP
      rw [map_snoc] at KC
      have HM := Lib.hid (And.intro m2 m3)
      clear hk hh m2 m3
      go_wp2_with fail
      refine KC.mono ?_
      rintro e w2 ⟨rfl, s2⟩
      have S2 := Lib.hid s2
      clear s2 KC
      by_cases hq : k < q
      · have I2 : Hid (LkI KL q lo hi (mid + 1) h kn key (ks ++ [mid])) := Lib.hid (I.out.up HM.out.1 HM.out.2 (UP.out.1 hq))
        go_wp2_with fail
        go_roundw
        case rel => exact ⟨mid + 1, h, kn, key, ks ++ [mid], (by first | (rw [m6]) | rfl), rfl, rfl, rfl, I2, S2⟩
        case measure => first | (rw [m6]; exact meas_lo hlt HM.out.1 HM.out.2) | exact meas_lo hlt HM.out.1 HM.out.2
      · have I2 : Hid (LkI KL q lo hi l mid true k (ks ++ [mid])) := Lib.hid (I.out.down HM.out.1 HM.out.2 (UP.out.2 (by first | exact hq | exact Int.not_lt.1 hq)) HKK.out)
        go_wp2_with fail
        go_roundw
        case rel => exact ⟨l, mid, true, k, ks ++ [mid], rfl, rfl, rfl, rfl, I2, S2⟩
        case measure => exact meas_hi hlt HM.out.1 HM.out.2
    · have i0 : ¬ (l : Int) < (h : Int) := fun hh => hlt (Int.ofNat_lt.1 hh)
      have R1 := look_end (Nat.le_of_not_lt hlt) I.out.b I.out.c
      obtain ⟨r, hr⟩ : ∃ r, lookR KL q lo hi = r := ⟨_, rfl⟩
      have LT : Hid (lookT KL q lo hi to_ = decide (r < to_ ∧ KL.getD r 0 = q)) := Lib.hid (by unfold lookT; rw [hr])
      rw [hr] at R1
      have HR := Lib.hid hr
      obtain ⟨rfl, rfl⟩ := R1
      have FA := Lib.hid (And.intro I.out.k1 (And.intro I.out.k0 I.out.d))
      clear hr
      cases kn
      · have hh := FA.out.2.1 rfl
        by_cases ht : r < to_
        · have t0 : (r : Int) < (to_ : Int) := Int.ofNat_lt.2 ht
          have KC := HK.out r (Nat.lt_of_lt_of_le ht HN.out.2.2.2) _ _ SS.out (by rw [List.length_append, List.length_map]; exact ask_short I.out.cnt HAL.out)
          have KSN := Lib.hid (LkI.ks1 (h := r) I.out ht)
          obtain ⟨k, hk⟩ : ∃ k, KL.getD r 0 = k := ⟨_, rfl⟩
          rw [hk] at KC LT
          rw [map_snoc] at KC
          have E := Lib.hid (LT.out.trans (show decide (r < to_ ∧ k = q) = (k == q) by rw [Bool.eq_iff_iff]; simp [ht]))
          clear hh ht LT hk
          go_wp2_with fail
          refine KC.mono ?_
          rintro e w2 ⟨rfl, s2⟩
          have S2 := Lib.hid s2
          clear s2 KC
          go_wp2_with fail
          simp [bodyPost, results, Try.results79, go_sem, HR.out, E.out]
          exact ⟨_, KSN.out, by simpa using S2.out⟩
        · have t0 : ¬ (r : Int) < (to_ : Int) := fun hh => ht (Int.ofNat_lt.1 hh)
          have E := Lib.hid (LT.out.trans (show decide (r < to_ ∧ KL.getD r 0 = q) = false by simp [ht]))
          clear hh ht LT
          go_wp2_with fail
          simp [bodyPost, results, Try.results79, go_sem, HR.out, E.out]
          exact ⟨_, I.out.ks HN.out.2.2.1, SS.out⟩
      · obtain ⟨f1, f2⟩ := FA.out.1 rfl
        have E := Lib.hid (LT.out.trans (show decide (r < to_ ∧ KL.getD r 0 = q) = (key == q) by rw [f2, Bool.eq_iff_iff]; simp [Nat.lt_of_lt_of_le f1 HN.out.2.2.1]))
        clear LT f1 f2
        go_wp2_with fail
        simp [bodyPost, results, Try.results79, go_sem, HR.out, E.out]
        exact ⟨_, I.out.ks HN.out.2.2.1, SS.out⟩
end Go.Proofs.Ytnccgpdniigekaa
/-
  descend over a pile, for whatever is told each visit.
-/
namespace Go.Proofs.Ytnccgpdniigekaa
open Go.RowKit
set_option linter.unusedVariables false
set_option linter.unusedSimpArgs false
attribute [local go_sem high] run_store_float

theorem inv_eps_P (a : Option Addr) (w : World) : (method 301 63 (.pointer a) "Eps").run Try.prog w = .ok (159, .pointer a) w := by kernel_rfl
theorem inv_height_P (a : Option Addr) (w : World) : (method 301 63 (.pointer a) "Height").run Try.prog w = .ok (160, .pointer a) w := by kernel_rfl
theorem inv_seg_P (a : Option Addr) (w : World) : (method 301 63 (.pointer a) "Segment").run Try.prog w = .ok (162, .pointer a) w := by kernel_rfl
/-- What descend asks of the slots and of the function that is told each visit: E is what is kept (levels left, keys asked, segments asked, the block of visits that is kept). -/
structure DescHP (B p : Nat) (eps : Int) (K : List Int) (ll : List (List Sg)) (q : Int) (f : FuncId) (caps : Array Value) (E : Nat → List (Nat × Nat) → List (Nat × Nat) → Option Nat → World → Prop) : Prop where
  below : ∀ {m a s o w w'}, E m a s o w → Below w.heap.size w w' → E m a s o w'
  set : ∀ {m a s o w g cs}, E m a s o w → Blk w g 69 cs → o ≠ some g → B ≤ g → ∀ k u, E m a s o (w.setCell ⟨g, k, none⟩ u)
  big : ∀ {m a s o w}, E m a s o w → B ≤ w.heap.size
  own : ∀ {m a s g w}, E m a s (some g) w → g < w.heap.size
  eps_ : ∀ {m a s o w}, E m a s o w → Calls Try.prog 159 #[.pointer (some ⟨p, 0, none⟩)] w fun e w' => e = .returned (.int .i64 eps) ∧ w = w'
  height : ∀ {m a s o w}, E m a s o w → Calls Try.prog 160 #[.pointer (some ⟨p, 0, none⟩)] w fun e w' => e = .returned (.int .i64 (ll.length : Int)) ∧ w = w'
  key : ∀ {m a s o w L i}, E m a s o w → L ≤ ll.length → i < (keysAt K ll L).length → a.length < 1000000000000 → Calls Try.prog 161 #[.pointer (some ⟨p, 0, none⟩), .int .i64 (L : Int), .int .i64 (i : Int)] w fun e w' => e = .returned (.int .u64 ((keysAt K ll L).getD i 0)) ∧ E m (a ++ [(L, i)]) s o w' ∧ KeepV w w'
  seg : ∀ {m a s o w L i}, E m a s o w → L < ll.length → i < (ll.getD L []).length → s.length < 1000000000000 → Calls Try.prog 162 #[.pointer (some ⟨p, 0, none⟩), .int .i64 ((L : Int) + 1), .int .i64 (i : Int)] w fun e w' => e = .returned ((ll.getD L []).getD i zS).v ∧ E m a (s ++ [(L + 1, i)]) o w' ∧ KeepV w w'
  call : ∀ {a s o w L}, E (L + 1) a s o w → L < ll.length → Calls Try.prog f (#[.agg (visS eps K ll q L), .bool (hasI K ll q L)] ++ caps) w fun e w' => e = .returned (.tuple #[]) ∧ (∃ o', E L a s o' w') ∧ ∀ g cs, Blk w g 33 cs → Blk w' g 33 cs
set_option maxHeartbeats 8000000 in
set_option maxRecDepth 100000 in
theorem descend_P {B p : Nat} {eps : Int} {K : List Int} {ll : List (List Sg)} (hR : RightL eps K ll) {q : Int} (hq : u64ok q) {f : FuncId} {caps : Array Value} (ef : ∀ args w, (callFunc f args).run Try.prog w = .ok (.enter f args) w)
    {E : Nat → List (Nat × Nat) → List (Nat × Nat) → Option Nat → World → Prop} (hE : DescHP B p eps K ll q f caps E) {w : World} (h0 : E ll.length [] [] none w) :
    Calls Try.prog 61 #[.pointer (some ⟨p, 0, none⟩), .int .u64 q, .func (.func f) #[] caps] w fun e w' => e = .returned (.tuple #[]) ∧ ∃ a o, AskOk eps K ll q 0 a ∧ E 0 a (segsL K ll q 0) o w' := by
  have HE := Lib.hid h0
  have HH := Lib.hid hE
  have HR := Lib.hid hR
  have i1 := inv_eps_P
  have i2 := inv_height_P
  have i3 := inv_seg_P
  have C1 := hE.eps_ h0
  have C2 := hE.height h0
  have hl : wrap64 ((ll.length : Int) - 1) = (ll.length : Int) - 1 := by have := hR.nl; unfold wrap64; omega
  clear h0 hE hR
  go_enter Try.func61, Try.ntmps61
  go_wp2_with fail
  refine C1.mono ?_
  rintro e w1 ⟨rfl, rfl⟩
  go_wp2_with fail
  refine C2.mono ?_
  rintro e w1 ⟨rfl, rfl⟩
  go_wp2_with fail
  have HLW := Lib.hid hl
  clear C1 C2 hl
  go_loopw [6, 8] (fun x y wr => ∃ (m : Nat) (a : List (Nat × Nat)) (o : Option Nat), m ≤ ll.length ∧ y = .int .i64 ((m : Int) - 1) ∧ (0 < m → x = .int .i64 (slotAt K ll q (m - 1) : Nat)) ∧ Hid (AskOk eps K ll q m a) ∧ Hid (E m a (segsL K ll q m) o wr)) (fun _ y _ => (intOf y + 1).toNat)
  case atStart => exact ⟨ll.length, [], none, Nat.le_refl _, by rw [HLW.out], fun h => by unfold slotAt; rw [if_pos (by omega)]; rfl, Lib.hid (AskOk.start _ _ _ _), by rw [segsL_top]; exact HE⟩
  case round =>
    obtain ⟨m, a, o, hm, rfl, hx, HA, I⟩ := hrel
    clear HE
    cases m with
    | zero =>
      have n0 : ¬ (0 : Int) ≤ ((0 : Nat) : Int) - 1 := by decide
      clear hx
      go_wp2_with fail
      simp [bodyPost, results, Try.results61, go_sem]
      exact ⟨a, HA.out, o, I.out⟩
    | succ L =>
      have hL : L < ll.length := hm
      obtain rfl := hx (Nat.succ_pos _)
      simp only [Nat.add_sub_cancel]
      have ST := HR.out.stands q hL
      obtain ⟨pp, lo, hi, t, d1, d2, d3, d4, d5, d6, d7, d8, d9, d10, d11, d12, d13⟩ := desc_step (HR.out.lev L hL) HR.out.e1 HR.out.e2 hq ST
      have CS := HH.out.seg I.out hL ST.lt (by rw [segsL_len]; have := HR.out.nl; omega)
      rw [segsL_step K ll q hL] at CS
      have OKS := (HR.out.lev L hL).sg ((ll.getD L []).getD (slotAt K ll q L) zS) (mem_getD ST.lt rfl)
      have CG := fun w' => guess_any _ OKS q hq w'
      have KU := Lib.hid (HR.out.lev L hL).up
      have HLL := Lib.hid hL
      have VIS : Hid (visS eps K ll q L = #[.int .i64 (L : Int), .int .i64 (slotAt K ll q L : Nat), .int .i64 (guess ((ll.getD L []).getD (slotAt K ll q L) zS) q), .int .i64 (lo : Int), .int .i64 (hi : Int), .int .i64 (belowN (keysAt K ll L) q (keysAt K ll L).length : Nat)]) := Lib.hid (by unfold visS loI hiI sgAt rankI; rw [d2, d3])
      have STEP : Hid (∀ ks, Ks lo hi t ks → AskOk eps K ll q L (a ++ ks.map (fun k => (L, k)))) := Lib.hid fun ks hk => HA.out.step hL d2 d3 d4 hk d5 d13
      have SHRT : Hid (a.length + (hi - lo) < 1000000000000) := Lib.hid (by have h1 := HA.out.short HR.out.e1 HR.out.e2 HR.out.nl; have h2 := HR.out.e2; omega)
      have HEE := Lib.hid (And.intro HR.out.e1 HR.out.e2)
      have LNL := HR.out.nl
      obtain ⟨sl, hsl⟩ : ∃ sl, slotAt K ll q L = sl := ⟨_, rfl⟩
      obtain ⟨KL, hKL⟩ : ∃ KL, keysAt K ll L = KL := ⟨_, rfl⟩
      obtain ⟨b, hb⟩ : ∃ b, belowN KL q KL.length = b := ⟨_, rfl⟩
      obtain ⟨T, hT⟩ : ∃ T, hasN KL q KL.length = T := ⟨_, rfl⟩
      have HD7 := Lib.hid (And.intro d5 (And.intro d6 d7))
      rw [hKL] at d7
      rw [hKL, hb] at d8 d11 d12
      rw [hKL, hT] at d9
      rw [hKL, hT, hb] at d10
      rw [hKL, hb] at VIS
      have HSL := Lib.hid hsl
      have HKL := Lib.hid (And.intro hKL (And.intro hb hT))
      have SLOT : Hid (0 < L → (if T = true then b else b - 1) = slotAt K ll q (L - 1)) := Lib.hid (by
        intro h0
        rw [slotAt_down (by omega), show L - 1 + 1 = L by omega, hKL]
        unfold slotN
        rw [hT, hb])
      rw [hsl] at CS d1 d2 d3 d4 CG VIS ⊢
      obtain ⟨s, hs⟩ : ∃ s, (ll.getD L []).getD sl zS = s := ⟨_, rfl⟩
      rw [hs] at CS d1 d2 d3 d4 CG VIS
      have GB := guess_bounds s q
      obtain ⟨G, hG⟩ : ∃ G, guess s q = G := ⟨_, rfl⟩
      rw [hG] at CG d2 d3 GB VIS
      have HGS := Lib.hid (And.intro hs hG)
      obtain ⟨a0, a1, a2, a3, a4⟩ := s
      unfold Sg.v at CS CG
      simp only [] at CS CG d1 d2 d3 d4
      subst d1 d4
      have v1 : wrap64 (((L + 1 : Nat) : Int) - 1) = (L : Int) := by unfold wrap64; omega
      have v2 : wrap64 (((L + 1 : Nat) : Int) - 1 + 1) = (L : Int) + 1 := by unfold wrap64; omega
      have n1 : (0 : Int) ≤ ((L + 1 : Nat) : Int) - 1 := by omega
      have e0 : ((L + 1 : Nat) : Int) - 1 = (L : Int) := by omega
      have v3 : wrap64 ((L : Int) + 1) = (L : Int) + 1 := by unfold wrap64; omega
      have HG9 := Lib.hid (And.intro GB LNL)
      have LNL9 : Hid (L ≤ 17592186044416) := Lib.hid (lev_short hL LNL)
      have HD10 := Lib.hid (And.intro d10 (And.intro (show b ≤ KL.length from Nat.le_trans d12 (Nat.le_trans d6 d7)) (HKL.out.1 ▸ HR.out.len L : KL.length ≤ 17592186044416)))
      rw [e0]
      clear hsl hKL hb hT hs hG hm hx ST OKS GB LNL d10
      have n2 : (0 : Int) ≤ (L : Int) := Int.natCast_nonneg L
      have v9 : wrap64 ((L : Int) - 1) = (L : Int) - 1 := wrap_pred LNL9.out
      have v8 : wrap64 ((b : Int) - 1) = (b : Int) - 1 := wrap_pred (Nat.le_trans HD10.out.2.1 HD10.out.2.2)
      have HV9 := Lib.hid (And.intro v9 v8)
      clear v9 v8
      clear n1 v1 v2 e0
      go_upto_region 6 with (first | (go_at_call 162; refine CS.mono ?_; rintro e w3 ⟨rfl, s3, k3⟩) | (go_at_call 54; refine (CG _).mono ?_; rintro e w4 ⟨rfl, b4⟩))
      obtain ⟨wz, hwz⟩ : ∃ wz, wz = w4.alloc (.cells #[.int .i64 (L : Int), .int .i64 (sl : Int), .int .i64 G, .int .i64 0, .int .i64 0, .int .i64 0] 69) := ⟨_, rfl⟩
      have KB : Hid (Below w3.heap.size w3 wz) := Lib.hid (by rw [hwz]; exact (below_then ((Below.refl w3.heap.size w3).alloc (Nat.le_refl _) _) b4 (by simp)).alloc (Nat.le_trans (by simp) b4.size) _)
      have BG : Hid (Blk wz w3.heap.size 33 #[.int .u64 a0, .float .f64 a1, .float .f64 a2, .int .i64 (pp : Int), .int .i64 (t : Int)]) := Lib.hid (by rw [hwz]; exact ((Blk.new w3 _ _).below b4).alloc _)
      have BV : Hid (Blk wz w4.heap.size 69 #[.int .i64 (L : Int), .int .i64 (sl : Int), .int .i64 G, .int .i64 0, .int .i64 0, .int .i64 0]) := Lib.hid (by rw [hwz]; exact Blk.new _ _ _)
      have E3 := Lib.hid s3
      have H34L : Hid (w3.heap.size ≤ w4.heap.size) := Lib.hid (Nat.le_trans (by simp) b4.size)
      have H34 : Hid (w3.heap.size < w4.heap.size) := Lib.hid (Nat.lt_of_lt_of_le (by simp) b4.size)
      have HO : Hid (o ≠ some w4.heap.size) := Lib.hid (by rintro rfl; have h1 := HH.out.own E3.out; have h2 := H34L.out; omega)
      have HBG : Hid (B ≤ w4.heap.size) := Lib.hid (Nat.le_trans (HH.out.big E3.out) H34L.out)
      rw [← hwz]
      clear hwz b4 s3 k3
      have BX : Hid (wz.cell? ⟨w3.heap.size, 3, none⟩ = some (.int .i64 (pp : Int)) ∧ wz.cell? ⟨w3.heap.size, 4, none⟩ = some (.int .i64 (t : Int)) ∧ wz.cell? ⟨w4.heap.size, 2, none⟩ = some (.int .i64 G)) := Lib.hid ⟨BG.out.cell 3, BG.out.cell 4, BV.out.cell 2⟩
      have x3 := BG.out.cell 3; have x4 := BG.out.cell 4
      have y2 := BV.out.cell 2; have y3 := BV.out.cell 3; have y4 := BV.out.cell 4
      have z3 := BV.out.free 3; have z4 := BV.out.free 4
      have g9 := HG9.out
      have e9 := HEE.out
      have u1 : IntKind.i64.wrap (G - eps) = G - eps := IntWalk.i64_in _ (by omega)
      have u2 : IntKind.i64.wrap (G - eps - 1) = G - eps - 1 := IntWalk.i64_in _ (by omega)
      have u3 : IntKind.i64.wrap (G + eps) = G + eps := IntWalk.i64_in _ (by omega)
      have u4 : IntKind.i64.wrap (G + eps + 1) = G + eps + 1 := IntWalk.i64_in _ (by omega)
      clear g9 e9
      have w43 : w3.heap.size ≠ w4.heap.size := Nat.ne_of_lt H34.out
      have SD : wz.drew.cell? ⟨w3.heap.size, 3, none⟩ = some (.int .i64 (pp : Int)) ∧ wz.drew.cell? ⟨w3.heap.size, 4, none⟩ = some (.int .i64 (t : Int)) ∧ wz.drew.cell? ⟨w4.heap.size, 2, none⟩ = some (.int .i64 G) := BX.out
      have SK1 : ∀ u : Value, (wz.setCell ⟨w4.heap.size, 3, none⟩ u).drew.cell? ⟨w3.heap.size, 3, none⟩ = some (.int .i64 (pp : Int)) ∧ (wz.setCell ⟨w4.heap.size, 3, none⟩ u).drew.cell? ⟨w3.heap.size, 4, none⟩ = some (.int .i64 (t : Int)) ∧ (wz.setCell ⟨w4.heap.size, 3, none⟩ u).drew.cell? ⟨w4.heap.size, 2, none⟩ = some (.int .i64 G) := fun u => ⟨keepV1 BX.out.1 (.inl w43), keepV1 BX.out.2.1 (.inl w43), keepV1 BX.out.2.2 (.inr (by decide))⟩
      have SK2 : ∀ u v : Value, ((wz.setCell ⟨w4.heap.size, 3, none⟩ u).setCell ⟨w4.heap.size, 4, none⟩ v).drew.cell? ⟨w3.heap.size, 3, none⟩ = some (.int .i64 (pp : Int)) ∧ ((wz.setCell ⟨w4.heap.size, 3, none⟩ u).setCell ⟨w4.heap.size, 4, none⟩ v).drew.cell? ⟨w3.heap.size, 4, none⟩ = some (.int .i64 (t : Int)) ∧ ((wz.setCell ⟨w4.heap.size, 3, none⟩ u).setCell ⟨w4.heap.size, 4, none⟩ v).drew.cell? ⟨w4.heap.size, 2, none⟩ = some (.int .i64 G) := fun u v => ⟨keepV BX.out.1 (.inl w43), keepV BX.out.2.1 (.inl w43), keepV BX.out.2.2 (.inr (by decide))⟩
      have HS1 := Lib.hid SK1
      have HS2 := Lib.hid SK2
      have HSD := Lib.hid SD
      clear SK1 SK2 SD
      go_region_held3 (fun w' => w'.cell? ⟨w3.heap.size, 3, none⟩ = some (.int .i64 (pp : Int)) ∧ w'.cell? ⟨w3.heap.size, 4, none⟩ = some (.int .i64 (t : Int)) ∧ w'.cell? ⟨w4.heap.size, 2, none⟩ = some (.int .i64 G)) (first | (with_reducible exact HSD.out) | (with_reducible exact HS1.out _) | (with_reducible exact HS2.out _ _) | go_keep) (fail)
      all_goals
        have BVf : Hid (Blk (((wz.setCell ⟨w4.heap.size, 3, none⟩ (.int .i64 (lo : Int))).setCell ⟨w4.heap.size, 4, none⟩ (.int .i64 (hi : Int))).drew) w4.heap.size 69 #[.int .i64 (L : Int), .int .i64 (sl : Int), .int .i64 G, .int .i64 (lo : Int), .int .i64 (hi : Int), .int .i64 0]) := Lib.hid (((BV.out.set 3 (.int .i64 (lo : Int))).set 4 (.int .i64 (hi : Int))).drew)
        have BGf : Hid (Blk (((wz.setCell ⟨w4.heap.size, 3, none⟩ (.int .i64 (lo : Int))).setCell ⟨w4.heap.size, 4, none⟩ (.int .i64 (hi : Int))).drew) w3.heap.size 33 #[.int .u64 a0, .float .f64 a1, .float .f64 a2, .int .i64 (pp : Int), .int .i64 (t : Int)]) := Lib.hid (((BG.out.far _ w43).far _ w43).drew)
        have KBf : Hid (Below w3.heap.size w3 (((wz.setCell ⟨w4.heap.size, 3, none⟩ (.int .i64 (lo : Int))).setCell ⟨w4.heap.size, 4, none⟩ (.int .i64 (hi : Int))).drew)) := Lib.hid (((KB.out.setCell H34L.out _).setCell H34L.out _).drew)
        clear BX HS1 HS2 HSD x3 x4 y2 y3 y4 z3 z4 u1 u2 u3 u4 BV BG KB
        generalize (((wz.setCell ⟨w4.heap.size, 3, none⟩ (.int .i64 (lo : Int))).setCell ⟨w4.heap.size, 4, none⟩ (.int .i64 (hi : Int))).drew) = wf at *
        have x3 := BGf.out.cell 3
        have x4 := BGf.out.cell 4
        have y3 := BVf.out.cell 3
        have y4 := BVf.out.cell 4
        have EF := HH.out.below E3.out KBf.out
        have LKP := look_P (p := p) (L := L) (KL := keysAt K ll L) KU.out (HR.out.len L) (fun a' w' => E (L + 1) a' (segsL K ll q L) o w' ∧ KeepV wf w') (fun i hi a' w' h hsh => (HH.out.key h.1 (Nat.le_of_lt HLL.out) hi hsh).mono fun e w2 h2 => ⟨h2.1, h2.2.1, h.2.trans h2.2.2⟩) HD7.out.1 HD7.out.2.1 HD7.out.2.2 q ⟨EF, KeepV.refl _⟩ SHRT.out
        rw [HKL.out.1] at LKP
        rw [d8, d9] at LKP
        clear EF
        go_upto_region 8 with fail
        refine LKP.mono ?_
        rintro e w9 ⟨rfl, ks, hks, s9, k9⟩
        have BV9 := Lib.hid (k9.vis _ _ BVf.out)
        have BG9 := Lib.hid (k9.seg _ _ BGf.out)
        have E9 := Lib.hid s9
        have A9 := Lib.hid (STEP.out ks hks)
        clear hks s9 k9 BVf BGf KBf LKP x3 x4 y3 y4
        generalize a ++ ks.map (fun k => (L, k)) = aa at *
        have y5 := BV9.out.cell 5
        have z5 := BV9.out.free 5
        go_upto_region 9 with fail
        have BVr : Hid (Blk (w9.setCell ⟨w4.heap.size, 5, none⟩ (.int .i64 (b : Int))) w4.heap.size 69 #[.int .i64 (L : Int), .int .i64 (sl : Int), .int .i64 G, .int .i64 (lo : Int), .int .i64 (hi : Int), .int .i64 (b : Int)]) := Lib.hid (BV9.out.set 5 (.int .i64 (b : Int)))
        have BGr : Hid (Blk (w9.setCell ⟨w4.heap.size, 5, none⟩ (.int .i64 (b : Int))) w3.heap.size 33 #[.int .u64 a0, .float .f64 a1, .float .f64 a2, .int .i64 (pp : Int), .int .i64 (t : Int)]) := Lib.hid (BG9.out.far _ w43)
        have Er := Lib.hid (HH.out.set E9.out BV9.out HO.out HBG.out 5 (.int .i64 (b : Int)))
        clear y5 z5 BV9 BG9 E9
        generalize (w9.setCell ⟨w4.heap.size, 5, none⟩ (.int .i64 (b : Int))) = wv at *
        have CF := HH.out.call Er.out HLL.out
        rw [VIS.out, show hasI K ll q L = T by unfold hasI; rw [HKL.out.1, HKL.out.2.2]] at CF
        have y0 := BVr.out.cell 0
        have y1 := BVr.out.cell 1
        have y2 := BVr.out.cell 2
        have y3 := BVr.out.cell 3
        have y4 := BVr.out.cell 4
        have y5 := BVr.out.cell 5
        go_wp2_with fail
        refine CF.mono ?_
        rintro e w10 ⟨rfl, ⟨o', s10⟩, kS⟩
        have BG10 := Lib.hid (kS _ _ BGr.out)
        have E10 := Lib.hid s10
        have v9 := HV9.out.1
        clear s10 kS CF y0 y1 y2 y3 y4 y5 BVr BGr Er
        cases T
        · have x3 := BG10.out.cell 3
          have v8 := HV9.out.2
          have mx : max ((b : Int) - 1) (pp : Int) = ((b - 1 : Nat) : Int) := HD10.out.1 (by decide)
          go_wp2_with fail
          go_roundw
          case rel => exact ⟨L, aa, o', Nat.le_of_lt HLL.out, (by first | rfl | rw [v9]), fun h => by have := SLOT.out h; first | rw [← this]; rfl | (rw [← this]; simp), A9, E10⟩
          case measure => first | (rw [v9]; exact meas_down L) | exact meas_down L
        · go_wp2_with fail
          go_roundw
          case rel => exact ⟨L, aa, o', Nat.le_of_lt HLL.out, (by first | rfl | rw [v9]), fun h => by have := SLOT.out h; rw [← this]; rfl, A9, E10⟩
          case measure => first | (rw [v9]; exact meas_down L) | exact meas_down L
end Go.Proofs.Ytnccgpdniigekaa
/-
  Find and Path over a pile.
-/
namespace Go.Proofs.Ytnccgpdniigekaa
open Go.RowKit
set_option linter.unusedVariables false
set_option linter.unusedSimpArgs false
attribute [local go_sem high] run_store_float

section
variable {w0 : World} {p : Nat} {AK : Option Addr} {cK : Nat} {AL : Option Addr} {cL : Nat} {eps : Int} {K : List Int} {ll : List (List Sg)} {a0 s0 : List (Nat × Nat)} {q : Int} {w ws w' : World}
/-- What Find keeps. -/
structure FdEP (w0 ws : World) (p : Nat) (AK : Option Addr) (cK : Nat) (AL : Option Addr) (cL : Nat) (eps : Int) (K : List Int) (ll : List (List Sg)) (a0 s0 : List (Nat × Nat)) (q : Int) (c1 c2 : Nat) (m : Nat) (a s : List (Nat × Nat)) (o : Option Nat) (w : World) : Prop where
  st : StP w0 p AK cK AL cL eps K ll (a0 ++ a) (s0 ++ s) w
  kt : KeepT ws w
  b1 : Blk w c1 3 #[.int .i64 (if m < ll.length then (rankI K ll q m : Int) else 0)]
  b2 : Blk w c2 4 #[.bool (if m < ll.length then hasI K ll q m else false)]
  g1 : ws.heap.size ≤ c1
  g2 : ws.heap.size ≤ c2
  g0 : w0.heap.size ≤ ws.heap.size
  o_ : o = none
theorem FdEP.chg {c1 c2 m : Nat} {a s : List (Nat × Nat)} {o : Option Nat} {S : Nat → Prop} (h : FdEP w0 ws p AK cK AL cL eps K ll a0 s0 q c1 c2 m a s o w) (C : Chg S w w') (hS : ∀ k, k < w.heap.size → S k → ws.heap.size ≤ k ∧ ∃ cs, Blk w k 69 cs) :
    FdEP w0 ws p AK cK AL cL eps K ll a0 s0 q c1 c2 m a s o w' := by
  have hn : ∀ g t cs, Blk w g t cs → t ≠ 69 → ¬ S g := fun g t cs hb ht hs => by
    obtain ⟨_, cs', hb'⟩ := hS g hb.lt hs
    exact ht (Blk.uniq hb hb').1
  exact ⟨h.st.chg C (fun k hk hs => ⟨Nat.le_trans h.g0 (hS k hk hs).1, _, (hS k hk hs).2.choose, (hS k hk hs).2.choose_spec, by decide, by decide⟩), h.kt.chg C (fun k hk hs => (hS k hk hs).1), h.b1.chg C (hn _ _ _ h.b1 (by decide)), h.b2.chg C (hn _ _ _ h.b2 (by decide)), h.g1, h.g2, h.g0, h.o_⟩
set_option maxRecDepth 100000 in
theorem fd_callP {c1 c2 L : Nat} {a s : List (Nat × Nat)} {o : Option Nat} (h : FdEP w0 ws p AK cK AL cL eps K ll a0 s0 q c1 c2 (L + 1) a s o w) (hL : L < ll.length) :
    Calls Try.prog 62 (#[.agg (visS eps K ll q L), .bool (hasI K ll q L)] ++ #[.pointer (some ⟨c1, 0, none⟩), .pointer (some ⟨c2, 0, none⟩)]) w fun e w' => e = .returned (.tuple #[]) ∧ (∃ o', FdEP w0 ws p AK cK AL cL eps K ll a0 s0 q c1 c2 L a s o' w') ∧ ∀ g cs, Blk w g 33 cs → Blk w' g 33 cs := by
  have hV0 : visS eps K ll q L = #[.int .i64 (L : Int), .int .i64 (slotAt K ll q L : Nat), .int .i64 (guess (sgAt K ll q L) q), .int .i64 (loI eps K ll q L), .int .i64 (hiI eps K ll q L), .int .i64 (rankI K ll q L : Nat)] := rfl
  generalize visS eps K ll q L = V at hV0 ⊢
  have H := Lib.hid h
  have hb := Lib.hid (below_new (Below.refl w.heap.size w) (.cells V 69))
  have B1 := h.b1.below hb.out
  have B2 := h.b2.below hb.out
  have x1 : _ = some (Value.int .i64 _) := B1.cell 0
  have x2 : _ = some (Value.bool _) := B2.cell 0
  have y1 := B1.free 0
  have y2 := B2.free 0
  have N : c1 ≠ c2 := fun e => by subst e; exact absurd (Blk.uniq h.b1 h.b2).1 (by decide)
  have B0 := Blk.new w 69 V
  have hl1 : c1 < w.heap.size := h.b1.lt
  have hl2 : c2 < w.heap.size := h.b2.lt
  have C1 : Hid (Blk (((w.alloc (.cells V 69)).setCell ⟨c1, 0, none⟩ (.int .i64 (rankI K ll q L : Nat))).setCell ⟨c2, 0, none⟩ (.bool (hasI K ll q L))) c1 3 #[.int .i64 (rankI K ll q L : Nat)]) := Lib.hid ((B1.set 0 _).far _ N)
  have C2 : Hid (Blk (((w.alloc (.cells V 69)).setCell ⟨c1, 0, none⟩ (.int .i64 (rankI K ll q L : Nat))).setCell ⟨c2, 0, none⟩ (.bool (hasI K ll q L))) c2 4 #[.bool (hasI K ll q L)]) := Lib.hid ((B2.far _ (Ne.symm N)).set 0 _)
  have C3 : Hid (Chg (fun k => k = c1 ∨ k = c2) w (((w.alloc (.cells V 69)).setCell ⟨c1, 0, none⟩ (.int .i64 (rankI K ll q L : Nat))).setCell ⟨c2, 0, none⟩ (.bool (hasI K ll q L)))) := Lib.hid ((((Chg.refl (fun k => k = c1 ∨ k = c2) w).alloc _).setCell (p := ⟨c1, 0, none⟩) (fun _ => .inl rfl) _).setCell (p := ⟨c2, 0, none⟩) (fun _ => .inr rfl) _)
  have F : Hid (FdEP w0 ws p AK cK AL cL eps K ll a0 s0 q c1 c2 L a s none (((w.alloc (.cells V 69)).setCell ⟨c1, 0, none⟩ (.int .i64 (rankI K ll q L : Nat))).setCell ⟨c2, 0, none⟩ (.bool (hasI K ll q L)))) := Lib.hid
    ⟨h.st.chg C3.out (fun k hk hs => ⟨by rcases hs with rfl | rfl; exact Nat.le_trans h.g0 h.g1; exact Nat.le_trans h.g0 h.g2, by rcases hs with rfl | rfl; exact ⟨_, _, h.b1, by decide, by decide⟩; exact ⟨_, _, h.b2, by decide, by decide⟩⟩),
      h.kt.chg C3.out (fun k hk hs => by rcases hs with rfl | rfl; exact h.g1; exact h.g2), by rw [if_pos hL]; exact C1.out, by rw [if_pos hL]; exact C2.out, h.g1, h.g2, h.g0, rfl⟩
  have SG : Hid (∀ g cs, Blk w g 33 cs → Blk (((w.alloc (.cells V 69)).setCell ⟨c1, 0, none⟩ (.int .i64 (rankI K ll q L : Nat))).setCell ⟨c2, 0, none⟩ (.bool (hasI K ll q L))) g 33 cs) := Lib.hid fun g cs hg => hg.chg C3.out (fun hs => by
    rcases hs with rfl | rfl
    · exact absurd (Blk.uniq hg H.out.b1).1 (by decide)
    · exact absurd (Blk.uniq hg H.out.b2).1 (by decide))
  have z5 : (w.alloc (.cells V 69)).cell? ⟨w.heap.size, 5, none⟩ = some (.int .i64 (rankI K ll q L : Nat)) := by rw [B0.cell, hV0]; rfl
  clear h B0 B1 B2 hb C1 C2 C3 H
  generalize slotAt K ll q L = v1 at *
  generalize guess (sgAt K ll q L) q = v2 at *
  generalize loI eps K ll q L = v3 at *
  generalize hiI eps K ll q L = v4 at *
  obtain ⟨r, hr⟩ : ∃ r, rankI K ll q L = r := ⟨_, rfl⟩
  obtain ⟨t, ht⟩ : ∃ t, hasI K ll q L = t := ⟨_, rfl⟩
  rw [hr] at F SG z5 hV0
  rw [ht] at F SG ⊢
  subst hV0
  show Calls _ _ #[.agg #[.int .i64 (L : Int), .int .i64 (v1 : Int), .int .i64 v2, .int .i64 v3, .int .i64 v4, .int .i64 (r : Int)], .bool t, .pointer (some ⟨c1, 0, none⟩), .pointer (some ⟨c2, 0, none⟩)] _ _
  clear hr ht
  obtain ⟨wb, hwb⟩ : ∃ wb, w.alloc (.cells #[.int .i64 (L : Int), .int .i64 (v1 : Int), .int .i64 v2, .int .i64 v3, .int .i64 v4, .int .i64 (r : Int)] 69) = wb := ⟨_, rfl⟩
  obtain ⟨gz, hgz⟩ : ∃ gz, w.heap.size = gz := ⟨_, rfl⟩
  rw [hwb] at x1 x2 y1 y2 z5 F SG
  rw [hgz] at z5 hl1 hl2
  go_enter Try.func62, Try.ntmps62
  go_upto_region 1 with fail
  (try rw [hwb]); (try rw [hgz])
  clear hwb hgz
  go_wp2_with fail
  simp [bodyPost, results, Try.results62, go_sem]
  exact ⟨⟨_, F.out⟩, SG.out⟩
theorem fd_descP (hR : RightL eps K ll) {c1 c2 : Nat} (h1 : a0.length ≤ 1000000000000) (h2 : s0.length ≤ 1000000000000) : DescHP ws.heap.size p eps K ll q 62 #[.pointer (some ⟨c1, 0, none⟩), .pointer (some ⟨c2, 0, none⟩)] (FdEP w0 ws p AK cK AL cL eps K ll a0 s0 q c1 c2) where
  below := fun h k => h.chg (Chg.of_below k) (fun _ _ hs => hs.elim)
  set := fun h hb ho hB k u => h.chg ((Chg.refl (fun j => j = _) _).setCell (p := ⟨_, k, none⟩) (fun _ => rfl) u) (fun j _ e => by subst e; exact ⟨hB, _, hb⟩)
  big := fun h => h.kt.size
  own := fun h => absurd h.o_ (by simp)
  eps_ := fun h => h.st.eps_
  height := fun h => h.st.height
  key := fun h hL hi ha => (h.st.key hL hi (by rw [List.length_append]; omega)).mono fun e w2 hh => ⟨hh.1, ⟨by rw [← List.append_assoc]; exact hh.2.1, h.kt.trans hh.2.2, hh.2.2.blk _ _ _ h.b1 (by decide) (by decide), hh.2.2.blk _ _ _ h.b2 (by decide) (by decide), h.g1, h.g2, h.g0, h.o_⟩, hh.2.2.v⟩
  seg := fun h hL hi ha => (h.st.seg hL hi (by rw [List.length_append]; omega)).mono fun e w2 hh => ⟨hh.1, ⟨by rw [← List.append_assoc]; exact hh.2.1, h.kt.trans hh.2.2, hh.2.2.blk _ _ _ h.b1 (by decide) (by decide), hh.2.2.blk _ _ _ h.b2 (by decide) (by decide), h.g1, h.g2, h.g0, h.o_⟩, hh.2.2.v⟩
  call := fun h hL => fd_callP h hL
theorem ef_fdP (args : Array Value) (w : World) : (callFunc 62 args).run Try.prog w = .ok (.enter 62 args) w := by kernel_rfl
set_option maxHeartbeats 2000000 in
set_option maxRecDepth 100000 in
theorem find_P (hR : RightL eps K ll) (hq : u64ok q) (h1 : a0.length ≤ 1000000000000) (h2 : s0.length ≤ 1000000000000) (h : StP w0 p AK cK AL cL eps K ll a0 s0 w) :
    Calls Try.prog 38 #[.pointer (some ⟨p, 0, none⟩), .int .u64 q] w fun e w' => e = .returned (.tuple #[.int .i64 (fndN K ll q), .bool (fndT K ll q)]) ∧ KeepT w w' ∧ ∃ a, AskOk eps K ll q 0 a ∧ StP w0 p AK cK AL cL eps K ll (a0 ++ a) (s0 ++ segsL K ll q 0) w' := by
  have D := descend_P hR hq ef_fdP (fd_descP (w0 := w0) (ws := w) (AK := AK) (cK := cK) (AL := AL) (cL := cL) (p := p) (q := q) hR (c1 := w.heap.size) (c2 := w.heap.size + 1) h1 h2) (w := (w.alloc (.cells #[.int .i64 0] 3)).alloc (.cells #[.bool false] 4))
    ⟨by simpa using (h.below (below_new (Below.refl _ _) _)).below (below_new (Below.refl _ _) _), KeepT.of_below (below_new (below_new (Below.refl _ _) _) _), by rw [if_neg (Nat.lt_irrefl _)]; exact (Blk.new w _ _).alloc _, by rw [if_neg (Nat.lt_irrefl _)]; exact Blk.new' (g := w.heap.size + 1) _ _ (by simp), Nat.le_refl _, Nat.le_succ _, h.size, rfl⟩
  have DD := Lib.hid D
  clear h hR hq h1 h2 D
  go_enter Try.func38, Try.ntmps38
  go_wp2_with (go_at_call 61; refine DD.out.mono ?_; rintro e w2 ⟨rfl, a, o, ha, hE⟩; have HE := Lib.hid (And.intro ha hE); have x1 : w2.cell? ⟨w.heap.size, 0, none⟩ = some (.int .i64 (fndN K ll q)) := hE.b1.cell 0; have x2 : w2.cell? ⟨w.heap.size + 1, 0, none⟩ = some (.bool (fndT K ll q)) := hE.b2.cell 0; clear hE ha)
  go_quiet (fail)
  go_wp2_with fail
  simp [bodyPost, results, Try.results38, go_sem]
  exact ⟨HE.out.2.kt.below (drewN_below (Below.refl _ _) _), a, HE.out.1, HE.out.2.st.below (drewN_below (Below.refl _ _) _)⟩
/-- What Path keeps. -/
structure PtVP (w0 ws : World) (p : Nat) (AK : Option Addr) (cK : Nat) (AL : Option Addr) (cL : Nat) (eps : Int) (K : List Int) (ll : List (List Sg)) (a0 s0 : List (Nat × Nat)) (q : Int) (c1 : Nat) (m : Nat) (a s : List (Nat × Nat)) (v : Value) (w : World) : Prop where
  st : StP w0 p AK cK AL cL eps K ll (a0 ++ a) (s0 ++ s) w
  kt : KeepT ws w
  b1 : Blk w c1 54 #[v]
  own : w.ownsRow ws.heap.size 69 6 v (ll.length - m) (vflat (visL eps K ll q m))
  g1 : ws.heap.size ≤ c1
  g0 : w0.heap.size ≤ ws.heap.size
def PtEP (w0 ws : World) (p : Nat) (AK : Option Addr) (cK : Nat) (AL : Option Addr) (cL : Nat) (eps : Int) (K : List Int) (ll : List (List Sg)) (a0 s0 : List (Nat × Nat)) (q : Int) (c1 : Nat) (m : Nat) (a s : List (Nat × Nat)) (o : Option Nat) (w : World) : Prop := ∃ v, o = v.ownBlock ∧ PtVP w0 ws p AK cK AL cL eps K ll a0 s0 q c1 m a s v w
theorem PtVP.chg {c1 m : Nat} {a s : List (Nat × Nat)} {v : Value} {S : Nat → Prop} (h : PtVP w0 ws p AK cK AL cL eps K ll a0 s0 q c1 m a s v w) (C : Chg S w w') (hS : ∀ k, k < w.heap.size → S k → ws.heap.size ≤ k ∧ v.ownBlock ≠ some k ∧ ∃ cs, Blk w k 69 cs) :
    PtVP w0 ws p AK cK AL cL eps K ll a0 s0 q c1 m a s v w' := by
  have hn : ∀ g t cs, Blk w g t cs → t ≠ 69 → ¬ S g := fun g t cs hb ht hs => by
    obtain ⟨_, _, cs', hb'⟩ := hS g hb.lt hs
    exact ht (Blk.uniq hb hb').1
  exact ⟨h.st.chg C (fun k hk hs => ⟨Nat.le_trans h.g0 (hS k hk hs).1, _, (hS k hk hs).2.2.choose, (hS k hk hs).2.2.choose_spec, by decide, by decide⟩), h.kt.chg C (fun k hk hs => (hS k hk hs).1), h.b1.chg C (hn _ _ _ h.b1 (by decide)), own_chg h.own C (fun g hg hs => (hS g (own_lt h.own hg) hs).2.1 hg), h.g1, h.g0⟩
/-- One visit more. -/
theorem PtVP.put {c1 L n : Nat} {a s : List (Nat × Nat)} {v : Value} {V : Array Value} {o1 o2 : Obj} {wn : World} {g cap : Nat} (h : PtVP w0 ws p AK cK AL cL eps K ll a0 s0 q c1 (L + 1) a s v w) (hL : L < ll.length) (hV : visS eps K ll q L = V) (hn : ll.length - (L + 1) = n)
    (hown : wn.ownsRow 0 69 6 (.slice (some ⟨g, 0, none⟩) (n + 1) cap) (n + 1) (vflat (visL eps K ll q (L + 1)) ++ V.toList)) (hgr : ((w.alloc o1).alloc o2).grownBy wn v.ownBlock) (hat : v.ownBlock = some g ∨ g = w.heap.size + 1 + 1) :
    (∃ o', PtEP w0 ws p AK cK AL cL eps K ll a0 s0 q c1 L a s o' (wn.setCell ⟨c1, 0, none⟩ (.slice (some ⟨g, 0, none⟩) (n + 1) cap))) ∧ ∀ g' cs, Blk w g' 33 cs → Blk (wn.setCell ⟨c1, 0, none⟩ (.slice (some ⟨g, 0, none⟩) (n + 1) cap)) g' 33 cs := by
  subst hV hn
  have C1 : Chg (fun k => v.ownBlock = some k) w wn := (((Chg.refl _ w).alloc o1).alloc o2).grown hgr (fun k hk _ => hk)
  have C2 : Chg (fun k => v.ownBlock = some k ∨ k = c1) w (wn.setCell ⟨c1, 0, none⟩ (.slice (some ⟨g, 0, none⟩) (ll.length - (L + 1) + 1) cap)) := (C1.mono (fun _ _ h => .inl h)).setCell (p := ⟨c1, 0, none⟩) (fun _ => .inr rfl) _
  have hne := own_ne_blk h.own h.b1 (by decide)
  have hb1 := h.b1.chg C1 hne
  have hgp : (Value.slice (some ⟨g, 0, none⟩) (ll.length - (L + 1) + 1) cap).ownBlock ≠ some c1 := own_ne_blk hown hb1 (by decide)
  have hs := h.kt.size
  have hB : ∀ k, v.ownBlock = some k ∨ k = c1 → ws.heap.size ≤ k := fun k hk => by
    rcases hk with m | m
    · exact (h.own.lt _ m).1
    · subst m; exact h.g1
  have hT : ∀ k, k < w.heap.size → (v.ownBlock = some k ∨ k = c1) → ∃ t cs, Blk w k t cs ∧ (t = 69 ∨ t = 54) := fun k _ hk => by
    rcases hk with m | m
    · obtain ⟨cs, hb⟩ := own_blk h.own m
      exact ⟨_, cs, hb, .inl rfl⟩
    · subst m; exact ⟨_, _, h.b1, .inr rfl⟩
  refine ⟨⟨_, _, rfl, ⟨h.st.chg C2 (fun k hk hs => ⟨Nat.le_trans h.g0 (hB k hs), ?_⟩), h.kt.chg C2 (fun k _ hs => hB k hs), hb1.set 0 _, ?_, h.g1, h.g0⟩⟩, fun g' cs hb => hb.chg C2 (fun hS => ?_)⟩
  · obtain ⟨t, cs, hb, ht⟩ := hT k hk hs
    exact ⟨t, cs, hb, by rcases ht with rfl | rfl <;> decide, by rcases ht with rfl | rfl <;> decide⟩
  · have e : ll.length - L = ll.length - (L + 1) + 1 := by omega
    rw [e, ← visL_step eps K ll q hL, vflat_snoc]
    refine own_far (own_mono hown (fun g' hg' => ?_)) hgp _
    simp only [Value.ownBlock, Option.some.injEq] at hg'
    subst hg'
    rcases hat with m | m
    · exact (h.own.lt _ m).1
    · omega
  · obtain ⟨t, cs', hb', ht⟩ := hT g' hb.lt hS
    have := (Blk.uniq hb hb').1
    rcases ht with rfl | rfl <;> exact absurd this (by decide)
theorem PtVP.mid {c1 m : Nat} {a s : List (Nat × Nat)} {v : Value} {o1 o2 : Obj} {wn : World} (h : PtVP w0 ws p AK cK AL cL eps K ll a0 s0 q c1 m a s v w) (hgr : ((w.alloc o1).alloc o2).grownBy wn v.ownBlock) : wn.cell? ⟨c1, 0, none⟩ = some v ∧ wn.frozen? ⟨c1, 0, none⟩ = false := by
  have C1 : Chg (fun k => v.ownBlock = some k) w wn := (((Chg.refl _ w).alloc o1).alloc o2).grown hgr (fun k hk _ => hk)
  have hb1 := h.b1.chg C1 (own_ne_blk h.own h.b1 (by decide))
  exact ⟨hb1.cell 0, hb1.free 0⟩
set_option maxHeartbeats 2000000 in
set_option maxRecDepth 100000 in
theorem pt_callP {c1 L : Nat} {a s : List (Nat × Nat)} {o : Option Nat} (h : PtEP w0 ws p AK cK AL cL eps K ll a0 s0 q c1 (L + 1) a s o w) (hL : L < ll.length) (hn : ll.length ≤ 4294967296) :
    Calls Try.prog 63 (#[.agg (visS eps K ll q L), .bool (hasI K ll q L)] ++ #[.pointer (some ⟨c1, 0, none⟩)]) w fun e w' => e = .returned (.tuple #[]) ∧ (∃ o', PtEP w0 ws p AK cK AL cL eps K ll a0 s0 q c1 L a s o' w') ∧ ∀ g cs, Blk w g 33 cs → Blk w' g 33 cs := by
  obtain ⟨v, _, h⟩ := h
  obtain ⟨iv, hiv, hv0, hv1, hv2⟩ := info_parts infoV
  have hV0 : visS eps K ll q L = #[.int .i64 (L : Int), .int .i64 (slotAt K ll q L : Nat), .int .i64 (guess (sgAt K ll q L) q), .int .i64 (loI eps K ll q L), .int .i64 (hiI eps K ll q L), .int .i64 (rankI K ll q L : Nat)] := rfl
  have H := Lib.hid h
  have HL := Lib.hid hL
  have x1 := (h.b1.below (below_new (Below.refl _ _) (.cells #[.int .i64 (L : Int), .int .i64 (slotAt K ll q L : Nat), .int .i64 (guess (sgAt K ll q L) q), .int .i64 (loI eps K ll q L), .int .i64 (hiI eps K ll q L), .int .i64 (rankI K ll q L : Nat)] 69))).cell 0
  rw [hV0]
  have HV := Lib.hid hV0
  have SO := Lib.hid (six_one (L : Int) (slotAt K ll q L : Nat) (guess (sgAt K ll q L) q) (loI eps K ll q L) (hiI eps K ll q L) (rankI K ll q L : Nat))
  have OW := Lib.hid (own_mono h.own (fun _ _ => Nat.zero_le _) : w.ownsRow 0 69 6 v (ll.length - (L + 1)) (vflat (visL eps K ll q (L + 1))))
  obtain ⟨n, hnn⟩ : ∃ n, ll.length - (L + 1) = n := ⟨_, rfl⟩
  have NL : n ≤ 4294967296 := by omega
  rw [hnn] at OW
  have HN := Lib.hid hnn
  clear h hL hn hV0 hnn
  generalize slotAt K ll q L = v1 at *
  generalize guess (sgAt K ll q L) q = v2 at *
  generalize loI eps K ll q L = v3 at *
  generalize hiI eps K ll q L = v4 at *
  generalize rankI K ll q L = v5 at *
  generalize hasI K ll q L = t at *
  have HO : Hid (((w.alloc (.cells #[.int .i64 (L : Int), .int .i64 (v1 : Int), .int .i64 v2, .int .i64 v3, .int .i64 v4, .int .i64 (v5 : Int)] 69)).alloc (.cells #[.int .i64 (L : Int), .int .i64 (v1 : Int), .int .i64 v2, .int .i64 v3, .int .i64 v4, .int .i64 (v5 : Int)] 69)).ownsRow 0 69 6 v n (vflat (visL eps K ll q (L + 1)))) := Lib.hid (own_chg OW.out (((Chg.refl (fun _ => False) w).alloc _).alloc _) (fun _ _ h => h))
  have G1 : Hid (Blk ((w.alloc (.cells #[.int .i64 (L : Int), .int .i64 (v1 : Int), .int .i64 v2, .int .i64 v3, .int .i64 v4, .int .i64 (v5 : Int)] 69)).alloc (.cells #[.int .i64 (L : Int), .int .i64 (v1 : Int), .int .i64 v2, .int .i64 v3, .int .i64 v4, .int .i64 (v5 : Int)] 69)) (w.heap.size + 1) 69 #[.int .i64 (L : Int), .int .i64 (v1 : Int), .int .i64 v2, .int .i64 v3, .int .i64 v4, .int .i64 (v5 : Int)]) := Lib.hid (Blk.new' _ _ (by simp))
  have b1 : n + 1 ≤ maxLen := by unfold maxLen; omega
  have b2 : (n + 1) * 48 ≤ 140737488355328 := by omega
  show Calls _ _ #[.agg #[.int .i64 (L : Int), .int .i64 (v1 : Int), .int .i64 v2, .int .i64 v3, .int .i64 v4, .int .i64 (v5 : Int)], .bool t, .pointer (some ⟨c1, 0, none⟩)] _ _
  clear OW NL
  go_enter Try.func63, Try.ntmps63
  go_wp2_with (at_builtin; go_loud (refine wpList_append_lies _ rfl (.tmp 5) (.tmp 7) 54 (by rfl) 0 69 iv _ 6 48 Try.underlying54 hiv hv0 hv1 hv2 rfl (by omega) v n (vflat (visL eps K ll q (L + 1))) (by rfl) HO.out ⟨w.heap.size + 1, 0, none⟩ 1 1 [.int .i64 (L : Int), .int .i64 (v1 : Int), .int .i64 v2, .int .i64 v3, .int .i64 v4, .int .i64 (v5 : Int)] (by rfl) (by rfl) (World.news_of_block G1.out) SO.out (by omega) b1 b2 (Nat.zero_le _) (w.heap.size + 1 + 1) (by simp) ?_; intro gn capn wn hown hgr hat hltn; obtain ⟨d1, d2⟩ := H.out.mid hgr; have P := Lib.hid (H.out.put HL.out HV.out HN.out hown hgr hat); clear hown hgr hat hltn))
  simp [bodyPost, results, Try.results63, go_sem]
  exact P.out
theorem pt_descP (hR : RightL eps K ll) {c1 : Nat} (h1 : a0.length ≤ 1000000000000) (h2 : s0.length ≤ 1000000000000) : DescHP ws.heap.size p eps K ll q 63 #[.pointer (some ⟨c1, 0, none⟩)] (PtEP w0 ws p AK cK AL cL eps K ll a0 s0 q c1) where
  below := fun h k => by
    obtain ⟨v, e, h⟩ := h
    exact ⟨v, e, h.chg (Chg.of_below k) (fun _ _ hs => hs.elim)⟩
  set := fun h hb ho hB k u => by
    obtain ⟨v, rfl, h⟩ := h
    exact ⟨v, rfl, h.chg ((Chg.refl (fun j => j = _) _).setCell (p := ⟨_, k, none⟩) (fun _ => rfl) u) (fun j _ e => by subst e; exact ⟨hB, ho, _, hb⟩)⟩
  big := fun h => by obtain ⟨v, e, h⟩ := h; exact h.kt.size
  own := fun h => by obtain ⟨v, e, h⟩ := h; exact own_lt h.own e.symm
  eps_ := fun h => by obtain ⟨v, e, h⟩ := h; exact h.st.eps_
  height := fun h => by obtain ⟨v, e, h⟩ := h; exact h.st.height
  key := fun h hL hi ha => by
    obtain ⟨v, eo, h⟩ := h
    exact (h.st.key hL hi (by rw [List.length_append]; omega)).mono fun e w2 hh => ⟨hh.1, ⟨v, eo, ⟨by rw [← List.append_assoc]; exact hh.2.1, h.kt.trans hh.2.2, hh.2.2.blk _ _ _ h.b1 (by decide) (by decide), hh.2.2.own h.own (by decide) (by decide), h.g1, h.g0⟩⟩, hh.2.2.v⟩
  seg := fun h hL hi ha => by
    obtain ⟨v, eo, h⟩ := h
    exact (h.st.seg hL hi (by rw [List.length_append]; omega)).mono fun e w2 hh => ⟨hh.1, ⟨v, eo, ⟨by rw [← List.append_assoc]; exact hh.2.1, h.kt.trans hh.2.2, hh.2.2.blk _ _ _ h.b1 (by decide) (by decide), hh.2.2.own h.own (by decide) (by decide), h.g1, h.g0⟩⟩, hh.2.2.v⟩
  call := fun h hL => pt_callP h hL hR.nl
theorem ef_ptP (args : Array Value) (w : World) : (callFunc 63 args).run Try.prog w = .ok (.enter 63 args) w := by kernel_rfl
set_option maxHeartbeats 2000000 in
set_option maxRecDepth 100000 in
theorem path_P (hR : RightL eps K ll) (hq : u64ok q) (h1 : a0.length ≤ 1000000000000) (h2 : s0.length ≤ 1000000000000) (h : StP w0 p AK cK AL cL eps K ll a0 s0 w) :
    Calls Try.prog 39 #[.pointer (some ⟨p, 0, none⟩), .int .u64 q] w fun e w' => ∃ v, e = .returned v ∧ w'.ownsRow w.heap.size 69 6 v ll.length (vflat (visL eps K ll q 0)) ∧ KeepT w w' ∧ ∃ a, AskOk eps K ll q 0 a ∧ StP w0 p AK cK AL cL eps K ll (a0 ++ a) (s0 ++ segsL K ll q 0) w' := by
  have D := descend_P hR hq ef_ptP (pt_descP (w0 := w0) (ws := w) (AK := AK) (cK := cK) (AL := AL) (cL := cL) (p := p) (q := q) hR (c1 := w.heap.size) h1 h2) (w := (w.alloc (.cells #[.slice none 0 0] 54)))
    ⟨.slice none 0 0, rfl, ⟨by simpa using h.below (below_new (Below.refl _ _) _), KeepT.of_below (below_new (Below.refl _ _) _), Blk.new w _ _, by rw [visL_top, Nat.sub_self]; exact ⟨rfl, .inl ⟨rfl, rfl⟩⟩, Nat.le_refl _, h.size⟩⟩
  have DD := Lib.hid D
  clear h hR hq h1 h2 D
  go_enter Try.func39, Try.ntmps39
  go_wp2_with (go_at_call 61; refine DD.out.mono ?_; rintro e w2 ⟨rfl, a, o, ha, v, eo, hE⟩; have HE := Lib.hid (And.intro ha hE); have x1 := hE.b1.cell 0; clear hE ha eo)
  go_ret
  exact ⟨v, rfl, by simpa using HE.out.2.own, HE.out.2.kt, a, HE.out.1, HE.out.2.st⟩
end
end Go.Proofs.Ytnccgpdniigekaa
