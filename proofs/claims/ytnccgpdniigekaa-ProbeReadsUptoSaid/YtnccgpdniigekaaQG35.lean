/-
  A pile in memory; what its methods tell.
-/
import Derived.Test.YtnccgpdniigekaaQG27
import Derived.Test.YtnccgpdniigekaaQG33
import Derived.Test.YtnccgpdniigekaaQLvNear
namespace Go.Proofs.Ytnccgpdniigekaa
open Go.RowKit
set_option linter.unusedVariables false
set_option linter.unusedSimpArgs false
attribute [local go_sem high] run_store_float

/-- One struct as the result. -/
theorem results_c {P : Program} {fn : Func} {p : Tmp} {ty : TypeId} (h : fn.results = #[.cell p ty]) (tmps : Array Value) {w : World} {g : Nat} {t : TypeId} {cs : Array Value} {d : TypeDesc}
    (hp : tmps.getD p undef = .pointer (some ⟨g, 0, none⟩)) (hg : Blk w g t cs)
    (hu : P.underlying ty = some d) (hd : (match d with | .struct _ | .array _ _ => true | _ => false) = true) (hi : (P.info? ty).map (·.size) = some cs.size) :
    (results fn tmps).run P w = .ok (.agg cs) w := by
  have hp' : tmps[p]?.getD undef = .pointer (some ⟨g, 0, none⟩) := by simpa using hp
  simp [results, h, hp', asAddr, run_loadVar_row (P := P) w g t ty cs (0, 0) d hg hu hd hi]
/-- The keys of a level. -/
def keysAt (K : List Int) (ll : List (List Sg)) (L : Nat) : List Int := if L = 0 then K else firstsL (ll.getD (L - 1) [])
theorem keysAt_zero (K : List Int) (ll : List (List Sg)) : keysAt K ll 0 = K := if_pos rfl
theorem keysAt_succ (K : List Int) (ll : List (List Sg)) (L : Nat) : keysAt K ll (L + 1) = firstsL (ll.getD L []) := by unfold keysAt; rw [if_neg (by omega)]; rfl
/-- A pile. -/
structure PileW (p : Nat) (AK : Option Addr) (cK : Nat) (AL : Option Addr) (cL : Nat) (eps : Int) (K : List Int) (ll : List (List Sg)) (w : World) : Prop where
  blk : Blk w p 96 #[.int .i64 eps, .slice AK K.length cK, .slice AL ll.length cL]
  keys : ArgU w AK K
  segs : ArgSS w AL ll
  nk : K.length ≤ 17592186044416
  nl : ll.length ≤ 17592186044416
  ns : ∀ l ∈ ll, l.length ≤ 17592186044416
section
variable {p cK cL : Nat} {AK AL : Option Addr} {eps : Int} {K : List Int} {ll : List (List Sg)} {w w' : World}
theorem PileW.below (h : PileW p AK cK AL cL eps K ll w) (k : Below w.heap.size w w') : PileW p AK cK AL cL eps K ll w' := ⟨h.blk.below k, h.keys.below k, h.segs.below k, h.nk, h.nl, h.ns⟩
theorem PileW.cells (h : PileW p AK cK AL cL eps K ll w) : w.cell? ⟨p, 0, none⟩ = some (.int .i64 eps) ∧ w.cell? ⟨p, 1, none⟩ = some (.slice AK K.length cK) ∧ w.cell? ⟨p, 2, none⟩ = some (.slice AL ll.length cL) := ⟨h.blk.cell 0, h.blk.cell 1, h.blk.cell 2⟩
theorem pile_eps (h : PileW p AK cK AL cL eps K ll w) : Calls Try.prog 159 #[.pointer (some ⟨p, 0, none⟩)] w fun e w' => e = .returned (.int .i64 eps) ∧ w = w' := by
  obtain ⟨c0, c1, c2⟩ := h.cells
  clear h
  go_enter Try.func159, Try.ntmps159
  go_wp2_with fail
  go_ret
  exact ⟨rfl, rfl⟩
theorem pile_height (h : PileW p AK cK AL cL eps K ll w) : Calls Try.prog 160 #[.pointer (some ⟨p, 0, none⟩)] w fun e w' => e = .returned (.int .i64 (ll.length : Int)) ∧ w = w' := by
  obtain ⟨c0, c1, c2⟩ := h.cells
  clear h
  go_enter Try.func160, Try.ntmps160
  go_wp2_with fail
  go_ret
  exact ⟨rfl, rfl⟩
theorem lev_num {L n : Nat} (h : L < n) : ¬ ((L : Int) + 1 < 0) ∧ ¬ ((n : Int) < (L : Int) + 1) ∧ (((L : Int) + 1) == 0) = false ∧ (L : Int) + 1 - 1 = L ∧ (0 : Int) ≤ (L : Int) ∧ (L : Int) < (n : Int) ∧ ¬ ((L : Int) + 1 < 1) := by
  refine ⟨by omega, by omega, by rw [beq_eq_false_iff_ne]; omega, by omega, by omega, by omega, by omega⟩
theorem lev_wrap {L n : Nat} (h : L < n) (hn : n ≤ 17592186044416) : wrap64 (L : Int) = L := by unfold wrap64; omega
theorem slot_num {i n : Nat} (h : i < n) : ¬ ((i : Int) < 0) ∧ ¬ ((n : Int) ≤ (i : Int)) ∧ (0 : Int) ≤ (i : Int) ∧ (i : Int) < (n : Int) := by omega
set_option maxRecDepth 100000 in
theorem pile_size0 (h : PileW p AK cK AL cL eps K ll w) : Calls Try.prog 163 #[.pointer (some ⟨p, 0, none⟩), .int .i64 0] w fun e w' => e = .returned (.int .i64 (K.length : Int)) ∧ w = w' := by
  obtain ⟨c0, c1, c2⟩ := h.cells
  have z : ¬ ((ll.length : Int) < 0) := by omega
  clear h
  go_enter Try.func163, Try.ntmps163
  go_wp2_with fail
  go_ret
  exact ⟨rfl, rfl⟩
set_option maxRecDepth 100000 in
theorem pile_size1 (h : PileW p AK cK AL cL eps K ll w) {L : Nat} (hL : L < ll.length) : Calls Try.prog 163 #[.pointer (some ⟨p, 0, none⟩), .int .i64 ((L : Int) + 1)] w fun e w' => e = .returned (.int .i64 ((ll.getD L []).length : Int)) ∧ w = w' := by
  obtain ⟨c0, c1, c2⟩ := h.cells
  obtain ⟨z1, z2, z3, z4, z5, z6, z7⟩ := lev_num hL
  have z8 := lev_wrap hL h.nl
  obtain ⟨b, o, rfl, hb, hc⟩ := h.segs (Nat.lt_of_le_of_lt (Nat.zero_le _) hL)
  obtain ⟨A', c', x0, _⟩ := hc L hL
  obtain ⟨l, hl⟩ : ∃ l, ll.getD L [] = l := ⟨_, rfl⟩
  rw [hl] at x0 ⊢
  clear h hc hl hb
  go_enter Try.func163, Try.ntmps163
  go_wp2_with fail
  go_ret
  exact ⟨rfl, rfl⟩
set_option maxRecDepth 100000 in
theorem pile_key0 (h : PileW p AK cK AL cL eps K ll w) {i : Nat} (hi : i < K.length) : Calls Try.prog 161 #[.pointer (some ⟨p, 0, none⟩), .int .i64 0, .int .i64 (i : Int)] w fun e w' => e = .returned (.int .u64 (K.getD i 0)) ∧ w = w' := by
  obtain ⟨c0, c1, c2⟩ := h.cells
  have S := pile_size0 h
  obtain ⟨z1, z2, z3, z4⟩ := slot_num hi
  obtain ⟨b, o, rfl, hb, hc⟩ := h.keys (Nat.lt_of_le_of_lt (Nat.zero_le _) hi)
  have x0 := hc i hi
  have e : K[i] = K.getD i 0 := by rw [List.getD_eq_getElem?_getD, List.getElem?_eq_getElem hi]; rfl
  rw [e] at x0
  obtain ⟨k, hk⟩ : ∃ k, K.getD i 0 = k := ⟨_, rfl⟩
  rw [hk] at x0 ⊢
  clear h hc hk hb e
  go_enter Try.func161, Try.ntmps161
  go_wp2_with fail
  refine S.mono ?_
  rintro e w2 ⟨rfl, rfl⟩
  go_wp2_with fail
  go_ret
  exact ⟨rfl, rfl⟩
set_option maxRecDepth 100000 in
theorem pile_key1 (h : PileW p AK cK AL cL eps K ll w) {L i : Nat} (hL : L < ll.length) (hi : i < (ll.getD L []).length) : Calls Try.prog 161 #[.pointer (some ⟨p, 0, none⟩), .int .i64 ((L : Int) + 1), .int .i64 (i : Int)] w fun e w' => e = .returned (.int .u64 ((ll.getD L []).getD i zS).first) ∧ w = w' := by
  obtain ⟨c0, c1, c2⟩ := h.cells
  have S := pile_size1 h hL
  obtain ⟨z1, z2, z3, z4, z5, z6, z7⟩ := lev_num hL
  have z8 := lev_wrap hL h.nl
  obtain ⟨b, o, rfl, hb, hc⟩ := h.segs (Nat.lt_of_le_of_lt (Nat.zero_le _) hL)
  obtain ⟨A', c', x0, hs⟩ := hc L hL
  obtain ⟨l, hl⟩ : ∃ l, ll.getD L [] = l := ⟨_, rfl⟩
  rw [hl] at x0 hs hi S ⊢
  obtain ⟨y1, y2, y3, y4⟩ := slot_num hi
  obtain ⟨b2, o2, rfl, hb2, hc2⟩ := hs (Nat.lt_of_le_of_lt (Nat.zero_le _) hi)
  obtain ⟨s0, _⟩ := hc2 i hi
  obtain ⟨f, hf⟩ : ∃ f, (l.getD i zS).first = f := ⟨_, rfl⟩
  rw [hf] at s0 ⊢
  clear h hc hl hb hc2 hf hs hb2
  go_enter Try.func161, Try.ntmps161
  go_wp2_with fail
  refine S.mono ?_
  rintro e w2 ⟨rfl, rfl⟩
  go_wp2_with fail
  go_ret
  exact ⟨rfl, rfl⟩
set_option maxHeartbeats 2000000 in
set_option maxRecDepth 100000 in
theorem pile_seg (h : PileW p AK cK AL cL eps K ll w) {L i : Nat} (hL : L < ll.length) (hi : i < (ll.getD L []).length) : Calls Try.prog 162 #[.pointer (some ⟨p, 0, none⟩), .int .i64 ((L : Int) + 1), .int .i64 (i : Int)] w fun e w' => e = .returned ((ll.getD L []).getD i zS).v ∧ Below w.heap.size w w' := by
  have H := Lib.hid h
  have S := fun w' (k : Below w.heap.size w w') => pile_size1 (h.below k) hL
  obtain ⟨z1, z2, z3, z4, z5, z6, z7⟩ := lev_num hL
  have z8 := lev_wrap hL h.nl
  obtain ⟨b, o, rfl, hb, hc⟩ := h.segs (Nat.lt_of_le_of_lt (Nat.zero_le _) hL)
  obtain ⟨A', c', x0, hs⟩ := hc L hL
  obtain ⟨l, hl⟩ : ∃ l, ll.getD L [] = l := ⟨_, rfl⟩
  rw [hl] at x0 hs hi S ⊢
  obtain ⟨y1, y2, y3, y4⟩ := slot_num hi
  obtain ⟨b2, o2, rfl, hb2, hc2⟩ := hs (Nat.lt_of_le_of_lt (Nat.zero_le _) hi)
  have B0 := Lib.hid (below_new (Below.refl w.heap.size w) (.cells #[.int .u64 0, .float .f64 0, .float .f64 0, .int .i64 0, .int .i64 0] 33))
  have G := Blk.new w 33 #[.int .u64 0, .float .f64 0, .float .f64 0, .int .i64 0, .int .i64 0]
  obtain ⟨s0, s1, s2, s3, s4⟩ := (hc2 i hi).below B0.out hb2
  have x1 := (B0.out.cell (p := ⟨b, o + L, none⟩) hb).trans x0
  obtain ⟨c0, c1, c2⟩ := (h.below B0.out).cells
  have S2 := S _ B0.out
  obtain ⟨⟨a0, a1, a2, a3, a4⟩, hf⟩ : ∃ s, l.getD i zS = s := ⟨_, rfl⟩
  rw [hf] at s0 s1 s2 s3 s4 ⊢
  simp only [] at s0 s1 s2 s3 s4
  have S5 := Lib.hid (Blk.new w 33 #[.int .u64 a0, .float .f64 a1, .float .f64 a2, .int .i64 a3, .int .i64 a4])
  have B9 := Lib.hid (below_new (Below.refl w.heap.size w) (.cells #[.int .u64 a0, .float .f64 a1, .float .f64 a2, .int .i64 a3, .int .i64 a4] 33))
  clear h hc hl hb hc2 hf hs hb2 S x0 G
  go_enter Try.func162, Try.ntmps162
  go_wp2_with fail
  refine S2.mono ?_
  rintro e w2 ⟨rfl, rfl⟩
  go_wp2_with fail
  refine bodyPost_ret (v := .agg #[.int .u64 a0, .float .f64 a1, .float .f64 a2, .int .i64 a3, .int .i64 a4]) (results_c (p := 6) (ty := 33) (t := 33) rfl _ rfl ?_ Try.underlying33 rfl (by kernel_rfl)) rfl ⟨rfl, ?_⟩
  · exact S5.out
  · exact B9.out
end
end Go.Proofs.Ytnccgpdniigekaa
/-
  Plain: look, the first slot of a window that is not below, and what it asks for.
-/
namespace Go.Proofs.Ytnccgpdniigekaa
open Go.RowKit
set_option linter.unusedVariables false
set_option linter.unusedSimpArgs false
attribute [local go_sem high] run_store_float

/-- What look tells. -/
def lookR (KL : List Int) (q : Int) (lo hi : Nat) : Nat := min hi (max lo (belowN KL q KL.length))
def lookT (KL : List Int) (q : Int) (lo hi to_ : Nat) : Bool := decide (lookR KL q lo hi < to_ ∧ KL.getD (lookR KL q lo hi) 0 = q)
theorem look_up {KL : List Int} (hu : KL.Pairwise (· < ·)) {q : Int} {lo0 hi0 lo hi mid : Nat} (h1 : lo0 ≤ lo) (h2 : hi ≤ hi0) (hm1 : lo ≤ mid) (hm2 : mid < hi) (hn : hi0 ≤ KL.length) :
    (KL.getD mid 0 < q → mid + 1 ≤ lookR KL q lo0 hi0) ∧ (¬ KL.getD mid 0 < q → lookR KL q lo0 hi0 ≤ mid) := by
  obtain ⟨g1, g2⟩ := belowN_split hu q (Nat.le_refl KL.length)
  unfold lookR
  generalize belowN KL q KL.length = b at *
  refine ⟨fun h => ?_, fun h => ?_⟩
  · have : mid < b := by
      apply Classical.byContradiction; intro hh
      have := g2 mid (by omega) (by omega)
      omega
    omega
  · have : b ≤ mid := by
      apply Classical.byContradiction; intro hh
      exact h (g1 mid (by omega))
    omega
theorem look_in {KL : List Int} {q : Int} {lo hi : Nat} (h : lo ≤ hi) : lo ≤ lookR KL q lo hi ∧ lookR KL q lo hi ≤ hi := by unfold lookR; omega
theorem mid_num {lo hi n : Nat} (h : lo < hi) (hn : hi ≤ 17592186044416) : ∃ mid : Nat, ((lo : Int) + (hi : Int)).tdiv 2 = (mid : Int) ∧ lo ≤ mid ∧ mid < hi ∧ wrap64 ((lo : Int) + (hi : Int)) = (lo : Int) + hi ∧ wrap64 (mid : Int) = mid ∧ wrap64 ((mid : Int) + 1) = ((mid + 1 : Nat) : Int) := by
  refine ⟨(lo + hi) / 2, ?_, by omega, by omega, ?_, ?_, ?_⟩
  · rw [Int.tdiv_eq_ediv_of_nonneg (by omega)]; omega
  all_goals (unfold wrap64; omega)
/-- What the search keeps; ks: the slots that were asked. -/
structure LkI (KL : List Int) (q : Int) (lo hi l h : Nat) (kn : Bool) (key : Int) (ks : List Nat) : Prop where
  a : lo ≤ l
  b : l ≤ lookR KL q lo hi
  c : lookR KL q lo hi ≤ h
  d : h ≤ hi
  k1 : kn = true → h < hi ∧ key = KL.getD h 0
  k0 : kn = false → h = hi
  nd : ks.Nodup
  inn : ∀ k ∈ ks, lo ≤ k ∧ k < hi ∧ (k < l ∨ h ≤ k)
  cnt : ks.length + (h - l) ≤ hi - lo
/-- What was asked of a window. -/
structure Ks (lo hi to_ : Nat) (ks : List Nat) : Prop where
  nd : ks.Nodup
  inn : ∀ k ∈ ks, lo ≤ k ∧ k ≤ hi ∧ k < to_
  cnt : ks.length ≤ hi - lo + 1
theorem LkI.start {KL : List Int} {q : Int} {lo hi : Nat} (h : lo ≤ hi) : LkI KL q lo hi lo hi false 0 [] :=
  ⟨Nat.le_refl _, (look_in h).1, (look_in h).2, Nat.le_refl _, fun h => absurd h (by simp), fun _ => rfl, List.nodup_nil, fun k hk => absurd hk (by simp), by simp⟩
theorem nodup_snoc {ks : List Nat} {m : Nat} (h : ks.Nodup) (hm : ∀ k ∈ ks, k ≠ m) : (ks ++ [m]).Nodup := by
  rw [List.nodup_append]
  exact ⟨h, by simp, fun a ha b hb => by simp at hb; subst hb; exact hm a ha⟩
theorem LkI.up {KL : List Int} {q : Int} {lo hi l h m : Nat} {kn : Bool} {key : Int} {ks : List Nat} (I : LkI KL q lo hi l h kn key ks) (h1 : l ≤ m) (h2 : m < h) (h3 : m + 1 ≤ lookR KL q lo hi) : LkI KL q lo hi (m + 1) h kn key (ks ++ [m]) := by
  obtain ⟨a, b, c, d, k1, k0, nd, inn, cnt⟩ := I
  refine ⟨by omega, h3, c, d, k1, k0, nodup_snoc nd fun k hk => by have := (inn k hk).2.2; omega, fun k hk => ?_, ?_⟩
  · rcases List.mem_append.1 hk with hk | hk
    · have := inn k hk; omega
    · simp at hk; omega
  · rw [List.length_append, List.length_singleton]; omega
theorem LkI.down {KL : List Int} {q : Int} {lo hi l h m : Nat} {kn : Bool} {key : Int} {ks : List Nat} (I : LkI KL q lo hi l h kn key ks) (h1 : l ≤ m) (h2 : m < h) (h3 : lookR KL q lo hi ≤ m) {k' : Int} (hk : KL.getD m 0 = k') : LkI KL q lo hi l m true k' (ks ++ [m]) := by
  obtain ⟨a, b, c, d, k1, k0, nd, inn, cnt⟩ := I
  refine ⟨a, b, h3, by omega, fun _ => ⟨by omega, hk.symm⟩, fun h => absurd h (by simp), nodup_snoc nd fun k hk => by have := (inn k hk).2.2; omega, fun k hk => ?_, ?_⟩
  · rcases List.mem_append.1 hk with hk | hk
    · have := inn k hk; omega
    · simp at hk; omega
  · rw [List.length_append, List.length_singleton]; omega
theorem LkI.ks {KL : List Int} {q : Int} {lo hi l h : Nat} {kn : Bool} {key : Int} {ks : List Nat} {to_ : Nat} (I : LkI KL q lo hi l h kn key ks) (ht : hi ≤ to_) : Ks lo hi to_ ks :=
  ⟨I.nd, fun k hk => by have := I.inn k hk; omega, by have := I.cnt; omega⟩
theorem LkI.ks1 {KL : List Int} {q : Int} {lo hi h : Nat} {key : Int} {ks : List Nat} {to_ : Nat} (I : LkI KL q lo hi h h false key ks) (ht : h < to_) : Ks lo hi to_ (ks ++ [h]) := by
  have e := I.k0 rfl
  have a := I.a
  refine ⟨nodup_snoc I.nd fun k hk => by have := I.inn k hk; omega, fun k hk => ?_, ?_⟩
  · rcases List.mem_append.1 hk with hk | hk
    · have := I.inn k hk; omega
    · simp at hk; omega
  · have := I.cnt; rw [List.length_append, List.length_singleton]; omega
theorem ask_short {n k a b c : Nat} (h : k + a ≤ b) (h2 : n + b < c) : n + k < c := by omega
theorem map_snoc (a : List (Nat × Nat)) (ks : List Nat) (L m : Nat) : a ++ ks.map (fun k => (L, k)) ++ [(L, m)] = a ++ (ks ++ [m]).map (fun k => (L, k)) := by simp
theorem meas_lo {l m h : Nat} (hlt : l < h) (h1 : l ≤ m) (h2 : m < h) : (intOf (.int .i64 (h : Int))).toNat - (intOf (.int .i64 ((m + 1 : Nat) : Int))).toNat < (intOf (.int .i64 (h : Int))).toNat - (intOf (.int .i64 (l : Int))).toNat := by
  show h - (m + 1) < h - l; omega
theorem meas_hi {l m h : Nat} (hlt : l < h) (h1 : l ≤ m) (h2 : m < h) : (intOf (.int .i64 (m : Int))).toNat - (intOf (.int .i64 (l : Int))).toNat < (intOf (.int .i64 (h : Int))).toNat - (intOf (.int .i64 (l : Int))).toNat := by
  show m - l < h - l; omega
theorem look_end {l h r : Nat} (h0 : h ≤ l) (h1 : l ≤ r) (h2 : r ≤ h) : l = h ∧ r = h := by omega
end Go.Proofs.Ytnccgpdniigekaa
/-
  Plain: one step of the descent, over levels that are right.
-/
namespace Go.Proofs.Ytnccgpdniigekaa
open Go.RowKit
set_option linter.unusedVariables false
set_option linter.unusedSimpArgs false

/-- The slot that the descent goes on from, at a level with these keys. -/
def slotN (KL : List Int) (q : Int) : Nat := if hasN KL q KL.length = true then belowN KL q KL.length else belowN KL q KL.length - 1
theorem hasN_of {K : List Int} {q : Int} : ∀ {n i : Nat}, i < n → K.getD i 0 = q → hasN K q n = true
  | n + 1, i, hi, h => by
    rw [hasN, Bool.or_eq_true]
    rcases Nat.lt_or_ge i n with g | g
    · exact .inl (hasN_of g h)
    · have : i = n := by omega
      subst this
      exact .inr (by rw [h]; simp)
theorem has_at {KL : List Int} (hu : KL.Pairwise (· < ·)) {q : Int} (h : hasN KL q KL.length = true) : belowN KL q KL.length < KL.length ∧ KL.getD (belowN KL q KL.length) 0 = q := by
  obtain ⟨i, hi, e⟩ := hasN_at h
  obtain ⟨g1, g2⟩ := belowN_split hu q (Nat.le_refl KL.length)
  generalize belowN KL q KL.length = b at *
  have h1 : ¬ i < b := fun hh => by have := g1 i hh; omega
  have h2 : ¬ b < i := fun hh => by
    have := getD_lt hu hh hi
    have := g2 b (Nat.le_refl _) (by omega)
    omega
  have : i = b := by omega
  subst this
  exact ⟨hi, e⟩
theorem has_not {KL : List Int} (hu : KL.Pairwise (· < ·)) {q : Int} (h : ¬ hasN KL q KL.length = true) {i : Nat} (h1 : belowN KL q KL.length ≤ i) (h2 : i < KL.length) : q < KL.getD i 0 := by
  obtain ⟨_, g2⟩ := belowN_split hu q (Nat.le_refl KL.length)
  have := g2 i h1 h2
  have hne : KL.getD i 0 ≠ q := fun e => h (hasN_of h2 e)
  omega
/-- The next segment stands for q too. -/
theorem stands_next {K : List Int} {eps : Int} {m : List Sg} (hm : Lev K eps m) (h0 : 0 < m.length) (q : Int) : Stands m q (slotN (firstsL m) q) := by
  have hu := hm.up'
  have hl := firsts_len m
  have hf : ∀ i, i < m.length → (m.getD i zS).first = (firstsL m).getD i 0 := fun i hi => (firsts_getD m hi).symm
  obtain ⟨g1, g2⟩ := belowN_split hu q (Nat.le_refl (firstsL m).length)
  have hle := belowN_le (firstsL m) q (firstsL m).length
  unfold slotN
  by_cases h : hasN (firstsL m) q (firstsL m).length = true
  · obtain ⟨a1, a2⟩ := has_at hu h
    rw [if_pos h]
    rw [hl] at a1 a2 ⊢
    refine ⟨a1, .inr (by rw [hf _ a1, a2]; exact Int.le_refl _), fun hj => ?_⟩
    have g := getD_lt hu (Nat.lt_succ_self (belowN (firstsL m) q m.length)) (by rw [hl]; exact hj)
    rw [a2] at g
    rw [hf _ hj]
    exact g
  · have hn := fun i h1 h2 => has_not hu h (i := i) h1 h2
    rw [if_neg h]
    rw [hl] at g1 g2 hle hn ⊢
    generalize belowN (firstsL m) q m.length = b at *
    refine ⟨by omega, ?_, fun hj => ?_⟩
    · rcases Nat.eq_zero_or_pos b with hb | hb
      · exact .inl (by omega)
      · exact .inr (by rw [hf _ (by omega)]; exact Int.le_of_lt (g1 _ (by omega)))
    · rw [hf _ hj]
      exact hn _ (by omega) hj
theorem stands_top {l : List Sg} (h : l.length = 1) (q : Int) : Stands l q 0 := ⟨by omega, .inl rfl, fun hj => by omega⟩
/-- One step down. -/
theorem desc_step {KL : List Int} {eps : Int} {l : List Sg} (h : Lev KL eps l) (h1 : 2 ≤ eps) (h2 : eps ≤ 64) {q : Int} (hq : u64ok q) {j : Nat} (s : Stands l q j) :
    ∃ p lo hi t : Nat, (l.getD j zS).fr = p ∧ max (l.getD j zS).fr (guess (l.getD j zS) q - eps - 1) = lo ∧ min (l.getD j zS).up (guess (l.getD j zS) q + eps + 1) = hi ∧ (l.getD j zS).up = t ∧ lo ≤ hi ∧ hi ≤ t ∧ t ≤ KL.length ∧
      lookR KL q lo hi = belowN KL q KL.length ∧ lookT KL q lo hi t = hasN KL q KL.length ∧ (¬ hasN KL q KL.length = true → max ((belowN KL q KL.length : Int) - 1) p = ((belowN KL q KL.length - 1 : Nat) : Int)) ∧
      lo ≤ belowN KL q KL.length ∧ belowN KL q KL.length ≤ hi ∧ (hi : Int) - lo ≤ 2 * eps + 2 := by
  obtain ⟨p, t, a0, a1, a2, a3, a4, a5, a6, a7⟩ := h.at_ s.lt
  obtain ⟨r1, r2, r3⟩ := s.rank h a2 a3 a4 a5 a6
  obtain ⟨n1, n2, _⟩ := s.near h (by omega) hq
  have gi := guess_in a0 q
  have hb1 : p ≤ belowN KL q KL.length := by rw [r1]; exact Nat.le_add_right _ _
  have hb2 : belowN KL q KL.length ≤ t := by
    rw [r1]
    have := belowN_le (stretch KL p t) q (stretch KL p t).length
    have := stretch_len (K := KL) (p := p) a5
    omega
  have hup := h.up
  have hsp := belowN_split hup q (Nat.le_refl KL.length)
  have hhas := fun hh => has_at hup (q := q) hh
  have hof := fun i hi e => hasN_of (K := KL) (q := q) (n := KL.length) (i := i) hi e
  have hlow := s.low
  have hhead := h.head (Nat.lt_of_le_of_lt (Nat.zero_le _) s.lt)
  clear r1 r2 r3
  rw [a2, a3] at gi
  rw [a2, a3]
  generalize hG : guess (l.getD j zS) q = G at *
  have hT : ∀ (lo hi : Nat), lookR KL q lo hi = belowN KL q KL.length → lookT KL q lo hi t = hasN KL q KL.length := by
    intro lo hi e
    unfold lookT
    rw [e, Bool.eq_iff_iff, decide_eq_true_eq]
    constructor
    · intro hh
      exact hof _ (Nat.lt_of_lt_of_le hh.1 a5) hh.2
    · intro hh
      obtain ⟨c1, c2⟩ := hhas hh
      refine ⟨?_, c2⟩
      apply Classical.byContradiction
      intro hc
      have he : belowN KL q KL.length = t := by omega
      rw [he] at c2 c1
      by_cases hj : j + 1 < l.length
      · have g := s.high hj
        obtain ⟨p', t', _, _, b1, _, _, _, b5, _⟩ := h.at_ hj
        have := h.next hj
        have : p' = t := by omega
        subst this
        omega
      · have := h.last (Nat.lt_of_le_of_lt (Nat.zero_le _) s.lt)
        have hjl : l.length - 1 = j := by have := s.lt; omega
        rw [hjl] at this
        omega
  have hN : ¬ hasN KL q KL.length = true → max ((belowN KL q KL.length : Int) - 1) p = ((belowN KL q KL.length - 1 : Nat) : Int) := by
    intro hh
    rcases Nat.lt_or_ge p (belowN KL q KL.length) with g | g
    · omega
    · have e : belowN KL q KL.length = p := by omega
      rcases hlow with hj | hf
      · subst hj
        have : p = 0 := by omega
        omega
      · have hpl : p < KL.length := by omega
        have := hsp.2 p (by omega) hpl
        rw [a6] at hf
        exact absurd (hof p hpl (by omega)) hh
  generalize hB : belowN KL q KL.length = b at *
  obtain ⟨lo, hlo⟩ : ∃ lo : Nat, max (p : Int) (G - eps - 1) = lo := ⟨(max (p : Int) (G - eps - 1)).toNat, by omega⟩
  obtain ⟨hi, hhi⟩ : ∃ hi : Nat, min (t : Int) (G + eps + 1) = hi := ⟨(min (t : Int) (G + eps + 1)).toNat, by omega⟩
  have hR : lookR KL q lo hi = b := by unfold lookR; rw [hB]; omega
  exact ⟨p, lo, hi, t, rfl, hlo, hhi, rfl, by omega, by omega, a5, hR, hT lo hi hR, hN, by omega, by omega, by omega⟩
end Go.Proofs.Ytnccgpdniigekaa
/-
  Plain: the visits of a descent, and what is asked for.
-/
namespace Go.Proofs.Ytnccgpdniigekaa
open Go.RowKit
set_option linter.unusedVariables false
set_option linter.unusedSimpArgs false

/-- Levels that are right, from the lowest on. -/
structure RightL (eps : Int) (K : List Int) (ll : List (List Sg)) : Prop where
  lev : ∀ L, L < ll.length → Lev (keysAt K ll L) eps (ll.getD L [])
  pos : ∀ L, L < ll.length → 0 < (ll.getD L []).length
  top : 0 < ll.length → (ll.getD (ll.length - 1) []).length = 1
  e1 : 2 ≤ eps
  e2 : eps ≤ 64
  nk : K.length ≤ 17592186044416
  nl : ll.length ≤ 4294967296
  ns : ∀ l ∈ ll, l.length ≤ 17592186044416
/-- The slot at a level (of its segments). -/
def slotAt (K : List Int) (ll : List (List Sg)) (q : Int) (L : Nat) : Nat := if L + 1 = ll.length then 0 else slotN (keysAt K ll (L + 1)) q
theorem RightL.stands {eps : Int} {K : List Int} {ll : List (List Sg)} (h : RightL eps K ll) (q : Int) {L : Nat} (hL : L < ll.length) : Stands (ll.getD L []) q (slotAt K ll q L) := by
  unfold slotAt
  by_cases ht : L + 1 = ll.length
  · rw [if_pos ht]
    have := h.top (by omega)
    rw [show ll.length - 1 = L by omega] at this
    exact stands_top this q
  · rw [if_neg ht, keysAt_succ]
    exact stands_next (h.lev L hL) (h.pos L hL) q
theorem RightL.len {eps : Int} {K : List Int} {ll : List (List Sg)} (h : RightL eps K ll) (L : Nat) : (keysAt K ll L).length ≤ 17592186044416 := by
  unfold keysAt
  by_cases h0 : L = 0
  · rw [if_pos h0]; exact h.nk
  · rw [if_neg h0, firsts_len]
    by_cases hl : L - 1 < ll.length
    · exact h.ns _ (mem_getD hl rfl)
    · rw [List.getD_eq_getElem?_getD, List.getElem?_eq_none (by omega)]; exact Nat.zero_le _
/-- What stands at the next level down. -/
theorem slotAt_down {K : List Int} {ll : List (List Sg)} {q : Int} {L : Nat} (hL : L + 1 < ll.length) : slotAt K ll q L = slotN (keysAt K ll (L + 1)) q := by unfold slotAt; rw [if_neg (by omega)]
/-- The segment of a visit. -/
def sgAt (K : List Int) (ll : List (List Sg)) (q : Int) (L : Nat) : Sg := (ll.getD L []).getD (slotAt K ll q L) zS
noncomputable def loI (eps : Int) (K : List Int) (ll : List (List Sg)) (q : Int) (L : Nat) : Int := max (sgAt K ll q L).fr (guess (sgAt K ll q L) q - eps - 1)
noncomputable def hiI (eps : Int) (K : List Int) (ll : List (List Sg)) (q : Int) (L : Nat) : Int := min (sgAt K ll q L).up (guess (sgAt K ll q L) q + eps + 1)
def rankI (K : List Int) (ll : List (List Sg)) (q : Int) (L : Nat) : Nat := belowN (keysAt K ll L) q (keysAt K ll L).length
def hasI (K : List Int) (ll : List (List Sg)) (q : Int) (L : Nat) : Bool := hasN (keysAt K ll L) q (keysAt K ll L).length
/-- A visit. -/
noncomputable def visS (eps : Int) (K : List Int) (ll : List (List Sg)) (q : Int) (L : Nat) : Array Value :=
  #[.int .i64 (L : Int), .int .i64 (slotAt K ll q L : Nat), .int .i64 (guess (sgAt K ll q L) q), .int .i64 (loI eps K ll q L), .int .i64 (hiI eps K ll q L), .int .i64 (rankI K ll q L : Nat)]
/-- What was asked of keys, from the top down to level m. -/
structure AskOk (eps : Int) (K : List Int) (ll : List (List Sg)) (q : Int) (m : Nat) (a : List (Nat × Nat)) : Prop where
  nd : a.Nodup
  inn : ∀ x ∈ a, m ≤ x.1 ∧ x.1 < ll.length ∧ loI eps K ll q x.1 ≤ x.2 ∧ (x.2 : Int) ≤ hiI eps K ll q x.1 ∧ (x.2 : Int) < (sgAt K ll q x.1).up
  cnt : (a.length : Int) ≤ ((ll.length - m : Nat) : Int) * (2 * eps + 3)
theorem AskOk.start (eps : Int) (K : List Int) (ll : List (List Sg)) (q : Int) : AskOk eps K ll q ll.length [] := ⟨List.nodup_nil, fun x hx => absurd hx (by simp), by simp⟩
theorem AskOk.step {eps : Int} {K : List Int} {ll : List (List Sg)} {q : Int} {L : Nat} {a : List (Nat × Nat)} (h : AskOk eps K ll q (L + 1) a) (hL : L < ll.length) {lo hi t : Nat} {ks : List Nat} (h1 : loI eps K ll q L = lo) (h2 : hiI eps K ll q L = hi) (h3 : (sgAt K ll q L).up = t)
    (hk : Ks lo hi t ks) (h4 : lo ≤ hi) (h5 : (hi : Int) - lo ≤ 2 * eps + 2) : AskOk eps K ll q L (a ++ ks.map (fun k => (L, k))) := by
  obtain ⟨nd, inn, cnt⟩ := h
  refine ⟨?_, fun x hx => ?_, ?_⟩
  · rw [List.nodup_append]
    refine ⟨nd, ?_, fun x hx y hy => ?_⟩
    · exact List.Pairwise.map (fun k => (L, k)) (fun a b h e => h (by simpa using e)) hk.nd
    · obtain ⟨k, _, rfl⟩ := List.mem_map.1 hy
      have := (inn x hx).1
      intro e
      rw [e] at this
      simp only [] at this
      omega
  · rcases List.mem_append.1 hx with hx | hx
    · have := inn x hx
      exact ⟨by omega, this.2⟩
    · obtain ⟨k, hk', rfl⟩ := List.mem_map.1 hx
      have := hk.inn k hk'
      simp only []
      rw [h1, h2, h3]
      omega
  · rw [List.length_append, List.length_map]
    have := hk.cnt
    have e : ll.length - L = (ll.length - (L + 1)) + 1 := by omega
    rw [e]
    generalize ll.length - (L + 1) = n at *
    have e2 : ((n + 1 : Nat) : Int) * (2 * eps + 3) = (n : Int) * (2 * eps + 3) + (2 * eps + 3) := by rw [Int.natCast_add, Int.add_mul]; simp
    rw [e2]
    generalize (n : Int) * (2 * eps + 3) = c at *
    omega
theorem AskOk.short {eps : Int} {K : List Int} {ll : List (List Sg)} {q : Int} {m : Nat} {a : List (Nat × Nat)} (h : AskOk eps K ll q m a) (h1 : 2 ≤ eps) (h2 : eps ≤ 64) (h3 : ll.length ≤ 4294967296) : a.length + 130 < 1000000000000 := by
  have h4 := h.cnt
  have h5 : ((ll.length - m : Nat) : Int) * (2 * eps + 3) ≤ 4294967296 * 131 := by
    have a1 : ((ll.length - m : Nat) : Int) * (2 * eps + 3) ≤ 4294967296 * (2 * eps + 3) := Int.mul_le_mul_of_nonneg_right (by omega) (by omega)
    have a2 : (4294967296 : Int) * (2 * eps + 3) ≤ 4294967296 * 131 := Int.mul_le_mul_of_nonneg_left (by omega) (by omega)
    omega
  omega
/-- The segments that were asked for. -/
def segsL (K : List Int) (ll : List (List Sg)) (q : Int) (m : Nat) : List (Nat × Nat) := (List.range (ll.length - m)).map fun i => (ll.length - i, slotAt K ll q (ll.length - 1 - i))
theorem segsL_top (K : List Int) (ll : List (List Sg)) (q : Int) : segsL K ll q ll.length = [] := by simp [segsL]
theorem segsL_step (K : List Int) (ll : List (List Sg)) (q : Int) {L : Nat} (hL : L < ll.length) : segsL K ll q (L + 1) ++ [(L + 1, slotAt K ll q L)] = segsL K ll q L := by
  unfold segsL
  have e : ll.length - L = (ll.length - (L + 1)) + 1 := by omega
  rw [e, List.range_succ, List.map_append]
  congr 1
  have e1 : ll.length - (ll.length - (L + 1)) = L + 1 := by omega
  have e2 : ll.length - 1 - (ll.length - (L + 1)) = L := by omega
  simp [e1, e2]
theorem segsL_len (K : List Int) (ll : List (List Sg)) (q : Int) (m : Nat) : (segsL K ll q m).length = ll.length - m := by simp [segsL]
/-- The visits, from the top down to level m. -/
noncomputable def visL (eps : Int) (K : List Int) (ll : List (List Sg)) (q : Int) (m : Nat) : List (Array Value) := (List.range (ll.length - m)).map fun i => visS eps K ll q (ll.length - 1 - i)
theorem visL_top (eps : Int) (K : List Int) (ll : List (List Sg)) (q : Int) : visL eps K ll q ll.length = [] := by simp [visL]
theorem visL_step (eps : Int) (K : List Int) (ll : List (List Sg)) (q : Int) {L : Nat} (hL : L < ll.length) : visL eps K ll q (L + 1) ++ [visS eps K ll q L] = visL eps K ll q L := by
  unfold visL
  have e : ll.length - L = (ll.length - (L + 1)) + 1 := by omega
  rw [e, List.range_succ, List.map_append]
  congr 1
  have e2 : ll.length - 1 - (ll.length - (L + 1)) = L := by omega
  simp [e2]
theorem visL_len (eps : Int) (K : List Int) (ll : List (List Sg)) (q : Int) (m : Nat) : (visL eps K ll q m).length = ll.length - m := by simp [visL]

theorem keepV {w : World} {g b o : Nat} {u v c : Value} (h : w.cell? ⟨b, o, none⟩ = some c) (hne : b ≠ g ∨ (o ≠ 3 ∧ o ≠ 4)) : (((w.setCell ⟨g, 3, none⟩ u).setCell ⟨g, 4, none⟩ v).drew).cell? ⟨b, o, none⟩ = some c := by
  have q : ∀ k, k = 3 ∨ k = 4 → (⟨g, k, none⟩ : Addr) ≠ ⟨b, o, none⟩ := fun k hk e => by
    injection e with e1 e2
    rcases hne with h1 | ⟨h1, h2⟩
    · exact h1 e1.symm
    · omega
  rw [World.cell?_drew, World.cell?_setCell_other _ _ _ _ (q 4 (.inr rfl)), World.cell?_setCell_other _ _ _ _ (q 3 (.inl rfl))]
  exact h
theorem keepV1 {w : World} {g b o : Nat} {u c : Value} (h : w.cell? ⟨b, o, none⟩ = some c) (hne : b ≠ g ∨ o ≠ 3) : ((w.setCell ⟨g, 3, none⟩ u).drew).cell? ⟨b, o, none⟩ = some c := by
  have q : (⟨g, 3, none⟩ : Addr) ≠ ⟨b, o, none⟩ := fun e => by
    injection e with e1 e2
    rcases hne with h1 | h1
    · exact h1 e1.symm
    · omega
  rw [World.cell?_drew, World.cell?_setCell_other _ _ _ _ q]
  exact h
theorem wrap_pred {n : Nat} (h : n ≤ 17592186044416) : wrap64 ((n : Int) - 1) = (n : Int) - 1 := by unfold wrap64; omega
theorem lev_short {L n : Nat} (h : L < n) (h2 : n ≤ 4294967296) : L ≤ 17592186044416 := by omega
theorem meas_down (L : Nat) : (intOf (.int .i64 ((L : Int) - 1)) + 1).toNat < (intOf (.int .i64 (L : Int)) + 1).toNat := by
  show ((L : Int) - 1 + 1).toNat < ((L : Int) + 1).toNat
  omega
/-- What Find tells. -/
def fndN (K : List Int) (ll : List (List Sg)) (q : Int) : Int := if 0 < ll.length then (rankI K ll q 0 : Int) else 0
def fndT (K : List Int) (ll : List (List Sg)) (q : Int) : Bool := if 0 < ll.length then hasI K ll q 0 else false
/-- What a call leaves of a visit and a segment that are not its own. -/
structure KeepV (w w' : World) : Prop where
  size : w.heap.size ≤ w'.heap.size
  vis : ∀ g cs, Blk w g 69 cs → Blk w' g 69 cs
  seg : ∀ g cs, Blk w g 33 cs → Blk w' g 33 cs
theorem KeepV.refl (w : World) : KeepV w w := ⟨Nat.le_refl _, fun _ _ h => h, fun _ _ h => h⟩
theorem KeepV.trans {a b c : World} (h : KeepV a b) (k : KeepV b c) : KeepV a c := ⟨Nat.le_trans h.size k.size, fun g cs x => k.vis g cs (h.vis g cs x), fun g cs x => k.seg g cs (h.seg g cs x)⟩
theorem KeepV.below {w w' : World} (h : Below w.heap.size w w') : KeepV w w' := ⟨h.size, fun _ _ x => x.below h, fun _ _ x => x.below h⟩
end Go.Proofs.Ytnccgpdniigekaa
/-
  What is kept of slots while they are descended: a pile; the law's slots, with what they were asked for.
-/
namespace Go.Proofs.Ytnccgpdniigekaa
open Go.RowKit
set_option linter.unusedVariables false
set_option linter.unusedSimpArgs false

/-- Visits in memory. -/
def vflat (l : List (Array Value)) : List Value := l.flatMap (·.toList)
theorem vflat_snoc (l : List (Array Value)) (x : Array Value) : vflat (l ++ [x]) = vflat l ++ x.toList := by simp [vflat]
theorem infoV : (Try.prog.info? 69).map (fun i => (i.zero, i.size, i.bytes)) = some (some (.agg #[.int .i64 0, .int .i64 0, .int .i64 0, .int .i64 0, .int .i64 0, .int .i64 0]), 6, 48) := by kernel_rfl
theorem six_one (a b c d e f : Int) : ∀ u ∈ ([.int .i64 a, .int .i64 b, .int .i64 c, .int .i64 d, .int .i64 e, .int .i64 f] : List Value), u.oneCell' = true := by
  intro u hu; simp at hu; rcases hu with rfl | rfl | rfl | rfl | rfl | rfl <;> rfl
/-- What a call on slots leaves of all that is not slots, nor pairs of theirs. -/
structure KeepT (w w' : World) : Prop where
  size : w.heap.size ≤ w'.heap.size
  blk : ∀ g t cs, Blk w g t cs → t ≠ 53 → t ≠ 94 → Blk w' g t cs
section
variable {w w' w'' ws : World} {S : Nat → Prop}
theorem KeepT.refl (w : World) : KeepT w w := ⟨Nat.le_refl _, fun _ _ _ h _ _ => h⟩
theorem KeepT.trans (h : KeepT w w') (k : KeepT w' w'') : KeepT w w'' := ⟨Nat.le_trans h.size k.size, fun g t cs x a b => k.blk g t cs (h.blk g t cs x a b) a b⟩
theorem KeepT.of_below (h : Below w.heap.size w w') : KeepT w w' := ⟨h.size, fun _ _ _ x _ _ => x.below h⟩
theorem KeepT.v (h : KeepT w w') : KeepV w w' := ⟨h.size, fun g cs x => h.blk g _ cs x (by decide) (by decide), fun g cs x => h.blk g _ cs x (by decide) (by decide)⟩
/-- What was there stays, what is made since may turn. -/
theorem KeepT.chg (h : KeepT ws w) (C : Chg S w w') (hS : ∀ k, k < w.heap.size → S k → ws.heap.size ≤ k) : KeepT ws w' :=
  ⟨Nat.le_trans h.size C.size, fun g t cs x a b => (h.blk g t cs x a b).chg C (fun hs => by have := hS g (h.blk g t cs x a b).lt hs; have := x.lt; omega)⟩
theorem KeepT.below (h : KeepT ws w) (k : Below w.heap.size w w') : KeepT ws w' := h.trans (KeepT.of_below k)
theorem KeepT.own (h : KeepT w w') {base : Nat} {e : TypeId} {size n : Nat} {v : Value} {xs : List Value} (ho : w.ownsRow base e size v n xs) (h1 : e ≠ 53) (h2 : e ≠ 94) : w'.ownsRow base e size v n xs := by
  obtain ⟨a, b⟩ := ho
  refine ⟨a, ?_⟩
  rcases b with b | ⟨g, cap, cur, rfl, hb, hg, h3⟩
  · exact .inl b
  · exact .inr ⟨g, cap, cur, rfl, hb, h.blk g e cur hg h1 h2, h3⟩
end
/-- A pile, since w0. -/
structure StP (w0 : World) (p : Nat) (AK : Option Addr) (cK : Nat) (AL : Option Addr) (cL : Nat) (eps : Int) (K : List Int) (ll : List (List Sg)) (a s : List (Nat × Nat)) (w : World) : Prop where
  pile : PileW p AK cK AL cL eps K ll w0
  bel : Below w0.heap.size w0 w
section
variable {w0 : World} {p : Nat} {AK : Option Addr} {cK : Nat} {AL : Option Addr} {cL : Nat} {eps : Int} {K : List Int} {ll : List (List Sg)} {a s : List (Nat × Nat)} {w w' : World} {S : Nat → Prop}
theorem StP.chg (h : StP w0 p AK cK AL cL eps K ll a s w) (C : Chg S w w') (hS : ∀ k, k < w.heap.size → S k → w0.heap.size ≤ k ∧ ∃ t cs, Blk w k t cs ∧ t ≠ 53 ∧ t ≠ 94) : StP w0 p AK cK AL cL eps K ll a s w' :=
  ⟨h.pile, below_chg h.bel C (fun k hk hs => (hS k hk hs).1) h.bel.size⟩
theorem StP.below (h : StP w0 p AK cK AL cL eps K ll a s w) (k : Below w.heap.size w w') : StP w0 p AK cK AL cL eps K ll a s w' := ⟨h.pile, below_next h.bel k⟩
theorem StP.at_ (h : StP w0 p AK cK AL cL eps K ll a s w) : PileW p AK cK AL cL eps K ll w := h.pile.below h.bel
theorem StP.size (h : StP w0 p AK cK AL cL eps K ll a s w) : w0.heap.size ≤ w.heap.size := h.bel.size
theorem StP.eps_ (h : StP w0 p AK cK AL cL eps K ll a s w) : Calls Try.prog 159 #[.pointer (some ⟨p, 0, none⟩)] w fun e w' => e = .returned (.int .i64 eps) ∧ w = w' := pile_eps h.at_
theorem StP.height (h : StP w0 p AK cK AL cL eps K ll a s w) : Calls Try.prog 160 #[.pointer (some ⟨p, 0, none⟩)] w fun e w' => e = .returned (.int .i64 (ll.length : Int)) ∧ w = w' := pile_height h.at_
theorem StP.key (h : StP w0 p AK cK AL cL eps K ll a s w) {L i : Nat} (hL : L ≤ ll.length) (hi : i < (keysAt K ll L).length) (ha : a.length < 4000000000000) :
    Calls Try.prog 161 #[.pointer (some ⟨p, 0, none⟩), .int .i64 (L : Int), .int .i64 (i : Int)] w fun e w' => e = .returned (.int .u64 ((keysAt K ll L).getD i 0)) ∧ StP w0 p AK cK AL cL eps K ll (a ++ [(L, i)]) s w' ∧ KeepT w w' := by
  cases L with
  | zero =>
    rw [keysAt_zero] at hi ⊢
    refine (pile_key0 h.at_ hi).mono ?_
    rintro e w' ⟨rfl, rfl⟩
    exact ⟨rfl, ⟨h.pile, h.bel⟩, KeepT.refl _⟩
  | succ L =>
    rw [keysAt_succ] at hi ⊢
    rw [firsts_len] at hi
    rw [firsts_getD _ hi]
    refine (pile_key1 h.at_ hL hi).mono ?_
    rintro e w' ⟨rfl, rfl⟩
    exact ⟨rfl, ⟨h.pile, h.bel⟩, KeepT.refl _⟩
theorem StP.seg (h : StP w0 p AK cK AL cL eps K ll a s w) {L i : Nat} (hL : L < ll.length) (hi : i < (ll.getD L []).length) (ha : s.length < 4000000000000) :
    Calls Try.prog 162 #[.pointer (some ⟨p, 0, none⟩), .int .i64 ((L : Int) + 1), .int .i64 (i : Int)] w fun e w' => e = .returned ((ll.getD L []).getD i zS).v ∧ StP w0 p AK cK AL cL eps K ll a (s ++ [(L + 1, i)]) w' ∧ KeepT w w' := by
  refine (pile_seg h.at_ hL hi).mono ?_
  rintro e w' ⟨rfl, k⟩
  exact ⟨rfl, ⟨h.pile, below_next h.bel k⟩, KeepT.of_below k⟩
end

/-- Pairs in memory. -/
def prs (a : List (Nat × Nat)) : List Value := a.flatMap fun x => [.int .i64 (x.1 : Int), .int .i64 (x.2 : Int)]
theorem prs_snoc (a : List (Nat × Nat)) (i j : Nat) : prs (a ++ [(i, j)]) = prs a ++ [.int .i64 (i : Int), .int .i64 (j : Int)] := by simp [prs]
theorem prs_get : ∀ (a : List (Nat × Nat)) (i : Nat) (h : i < a.length), (prs a)[i * 2]? = some (.int .i64 ((a.getD i (0, 0)).1 : Int)) ∧ (prs a)[i * 2 + 1]? = some (.int .i64 ((a.getD i (0, 0)).2 : Int))
  | x :: a, 0, _ => by simp [prs]
  | x :: a, i + 1, h => by
    have := prs_get a i (by simpa using h)
    have e : prs (x :: a) = [.int .i64 (x.1 : Int), .int .i64 (x.2 : Int)] ++ prs a := by simp [prs]
    rw [e, show (i + 1) * 2 = i * 2 + 2 by omega, List.getElem?_append_right (by simp), List.getElem?_append_right (by simp)]
    simpa using this
/-- The law's slots, since w0: what they were asked for. -/
structure SlV (w0 : World) (p : Nat) (AK : Option Addr) (cK : Nat) (AL : Option Addr) (cL : Nat) (eps : Int) (K : List Int) (ll : List (List Sg)) (a s : List (Nat × Nat)) (av sv : Value) (w : World) : Prop where
  blk : Blk w p 53 #[.slice AK K.length cK, .int .i64 eps, .slice AL ll.length cL, av, sv, .bool false]
  ra : w.ownsRow w0.heap.size 94 2 av a.length (prs a)
  rs : w.ownsRow w0.heap.size 94 2 sv s.length (prs s)
  ne : ∀ g, av.ownBlock = some g → sv.ownBlock ≠ some g
  ge : w0.heap.size ≤ p
  bel : Below w0.heap.size w0 w
  keys : ArgU w0 AK K
  segs : ArgSS w0 AL ll
  nk : K.length ≤ 17592186044416
  nl : ll.length ≤ 17592186044416
  ns : ∀ l ∈ ll, l.length ≤ 17592186044416
def StS (w0 : World) (p : Nat) (AK : Option Addr) (cK : Nat) (AL : Option Addr) (cL : Nat) (eps : Int) (K : List Int) (ll : List (List Sg)) (a s : List (Nat × Nat)) (w : World) : Prop := ∃ av sv, SlV w0 p AK cK AL cL eps K ll a s av sv w
section
variable {w0 : World} {p : Nat} {AK : Option Addr} {cK : Nat} {AL : Option Addr} {cL : Nat} {eps : Int} {K : List Int} {ll : List (List Sg)} {a s : List (Nat × Nat)} {av sv : Value} {w w' : World} {S : Nat → Prop}
theorem SlV.chg (h : SlV w0 p AK cK AL cL eps K ll a s av sv w) (C : Chg S w w') (hS : ∀ k, k < w.heap.size → S k → w0.heap.size ≤ k ∧ ∃ t cs, Blk w k t cs ∧ t ≠ 53 ∧ t ≠ 94) : SlV w0 p AK cK AL cL eps K ll a s av sv w' := by
  have hp : ¬ S p := fun hs => by
    obtain ⟨_, t, cs, hb, h1, _⟩ := hS p h.blk.lt hs
    exact h1 (Blk.uniq hb h.blk).1
  have hr : ∀ {v n xs}, w.ownsRow w0.heap.size 94 2 v n xs → ∀ g, v.ownBlock = some g → ¬ S g := fun ho g hg hs => by
    obtain ⟨_, t, cs, hb, _, h2⟩ := hS g (own_lt ho hg) hs
    obtain ⟨cs', hb'⟩ := own_blk ho hg
    exact h2 (Blk.uniq hb hb').1
  exact ⟨h.blk.chg C hp, own_chg h.ra C (hr h.ra), own_chg h.rs C (hr h.rs), h.ne, h.ge, below_chg h.bel C (fun k hk hs => (hS k hk hs).1) h.bel.size, h.keys, h.segs, h.nk, h.nl, h.ns⟩
theorem SlV.below (h : SlV w0 p AK cK AL cL eps K ll a s av sv w) (k : Below w.heap.size w w') : SlV w0 p AK cK AL cL eps K ll a s av sv w' :=
  h.chg (Chg.of_below k) (fun _ _ hs => hs.elim)
theorem SlV.cells (h : SlV w0 p AK cK AL cL eps K ll a s av sv w) : w.cell? ⟨p, 0, none⟩ = some (.slice AK K.length cK) ∧ w.cell? ⟨p, 1, none⟩ = some (.int .i64 eps) ∧ w.cell? ⟨p, 2, none⟩ = some (.slice AL ll.length cL) ∧ w.cell? ⟨p, 3, none⟩ = some av ∧ w.cell? ⟨p, 4, none⟩ = some sv ∧ w.cell? ⟨p, 5, none⟩ = some (.bool false) :=
  ⟨h.blk.cell 0, h.blk.cell 1, h.blk.cell 2, h.blk.cell 3, h.blk.cell 4, h.blk.cell 5⟩
theorem StS.chg (h : StS w0 p AK cK AL cL eps K ll a s w) (C : Chg S w w') (hS : ∀ k, k < w.heap.size → S k → w0.heap.size ≤ k ∧ ∃ t cs, Blk w k t cs ∧ t ≠ 53 ∧ t ≠ 94) : StS w0 p AK cK AL cL eps K ll a s w' := by
  obtain ⟨av, sv, h⟩ := h
  exact ⟨av, sv, h.chg C hS⟩
theorem StS.below (h : StS w0 p AK cK AL cL eps K ll a s w) (k : Below w.heap.size w w') : StS w0 p AK cK AL cL eps K ll a s w' := by
  obtain ⟨av, sv, h⟩ := h
  exact ⟨av, sv, h.below k⟩
theorem StS.bel (h : StS w0 p AK cK AL cL eps K ll a s w) : Below w0.heap.size w0 w := by obtain ⟨av, sv, h⟩ := h; exact h.bel
theorem StS.size (h : StS w0 p AK cK AL cL eps K ll a s w) : w0.heap.size ≤ w.heap.size := h.bel.size
/-- One more key asked. -/
theorem SlV.putA (h : SlV w0 p AK cK AL cL eps K ll a s av sv w) {o : Obj} {w1 : World} {g cap i j : Nat} {b1 : Nat}
    (hown : w1.ownsRow b1 94 2 (.slice (some ⟨g, 0, none⟩) (a.length + 1) cap) (a.length + 1) (prs a ++ [.int .i64 (i : Int), .int .i64 (j : Int)])) (hgr : (w.alloc o).grownBy w1 av.ownBlock) (hat : av.ownBlock = some g ∨ g = w.heap.size + 1) :
    SlV w0 p AK cK AL cL eps K ll (a ++ [(i, j)]) s (.slice (some ⟨g, 0, none⟩) (a.length + 1) cap) sv (w1.setCell ⟨p, 3, none⟩ (.slice (some ⟨g, 0, none⟩) (a.length + 1) cap)) ∧ KeepT w (w1.setCell ⟨p, 3, none⟩ (.slice (some ⟨g, 0, none⟩) (a.length + 1) cap)) := by
  have C1 : Chg (fun k => av.ownBlock = some k) w w1 := ((Chg.refl _ w).alloc o).grown hgr (fun k hk _ => hk)
  have C2 : Chg (fun k => av.ownBlock = some k ∨ k = p) w (w1.setCell ⟨p, 3, none⟩ (.slice (some ⟨g, 0, none⟩) (a.length + 1) cap)) := (C1.mono (fun _ _ h => .inl h)).setCell (p := ⟨p, 3, none⟩) (fun _ => .inr rfl) _
  have hne := own_ne_blk h.ra h.blk (by decide)
  have hns := own_ne_blk h.rs h.blk (by decide)
  have hb1 := h.blk.chg C1 hne
  have hgp : (Value.slice (some ⟨g, 0, none⟩) (a.length + 1) cap).ownBlock ≠ some p := own_ne_blk hown hb1 (by decide)
  have hs := h.bel.size
  refine ⟨⟨hb1.set 3 _, ?_, own_chg h.rs C2 (fun g' hg' hS => ?_), fun g' hg' => ?_, h.ge, below_chg h.bel C2 (fun k hk hS => ?_) hs, h.keys, h.segs, h.nk, h.nl, h.ns⟩, ⟨C2.size, fun g' t cs hb h1 h2 => hb.chg C2 (fun hS => ?_)⟩⟩
  · rw [prs_snoc, List.length_append]
    refine own_far (own_mono hown (fun g' hg' => ?_)) hgp _
    simp only [Value.ownBlock, Option.some.injEq] at hg'
    subst hg'
    rcases hat with m | m
    · exact (h.ra.lt _ m).1
    · omega
  · rcases hS with m | m
    · exact h.ne g' m hg'
    · subst m; exact hns hg'
  · simp only [Value.ownBlock, Option.some.injEq] at hg'
    subst hg'
    rcases hat with m | m
    · exact h.ne _ m
    · intro e
      have := own_lt h.rs e
      omega
  · rcases hS with m | m
    · exact (h.ra.lt _ m).1
    · subst m; exact h.ge
  · rcases hS with m | m
    · obtain ⟨cs', hb'⟩ := own_blk h.ra m
      exact h2 (Blk.uniq hb hb').1
    · subst m
      exact h1 (Blk.uniq hb h.blk).1
/-- One more segment asked. -/
theorem SlV.putS (h : SlV w0 p AK cK AL cL eps K ll a s av sv w) {o : Obj} {w1 : World} {g cap i j : Nat} {b1 : Nat}
    (hown : w1.ownsRow b1 94 2 (.slice (some ⟨g, 0, none⟩) (s.length + 1) cap) (s.length + 1) (prs s ++ [.int .i64 (i : Int), .int .i64 (j : Int)])) (hgr : (w.alloc o).grownBy w1 sv.ownBlock) (hat : sv.ownBlock = some g ∨ g = w.heap.size + 1) :
    SlV w0 p AK cK AL cL eps K ll a (s ++ [(i, j)]) av (.slice (some ⟨g, 0, none⟩) (s.length + 1) cap) (w1.setCell ⟨p, 4, none⟩ (.slice (some ⟨g, 0, none⟩) (s.length + 1) cap)) ∧ KeepT w (w1.setCell ⟨p, 4, none⟩ (.slice (some ⟨g, 0, none⟩) (s.length + 1) cap)) := by
  have C1 : Chg (fun k => sv.ownBlock = some k) w w1 := ((Chg.refl _ w).alloc o).grown hgr (fun k hk _ => hk)
  have C2 : Chg (fun k => sv.ownBlock = some k ∨ k = p) w (w1.setCell ⟨p, 4, none⟩ (.slice (some ⟨g, 0, none⟩) (s.length + 1) cap)) := (C1.mono (fun _ _ h => .inl h)).setCell (p := ⟨p, 4, none⟩) (fun _ => .inr rfl) _
  have hne := own_ne_blk h.rs h.blk (by decide)
  have hns := own_ne_blk h.ra h.blk (by decide)
  have hb1 := h.blk.chg C1 hne
  have hgp : (Value.slice (some ⟨g, 0, none⟩) (s.length + 1) cap).ownBlock ≠ some p := own_ne_blk hown hb1 (by decide)
  have hs := h.bel.size
  refine ⟨⟨hb1.set 4 _, own_chg h.ra C2 (fun g' hg' hS => ?_), ?_, fun g' hg' => ?_, h.ge, below_chg h.bel C2 (fun k hk hS => ?_) hs, h.keys, h.segs, h.nk, h.nl, h.ns⟩, ⟨C2.size, fun g' t cs hb h1 h2 => hb.chg C2 (fun hS => ?_)⟩⟩
  · rcases hS with m | m
    · exact h.ne g' hg' m
    · subst m; exact hns hg'
  · rw [prs_snoc, List.length_append]
    refine own_far (own_mono hown (fun g' hg' => ?_)) hgp _
    simp only [Value.ownBlock, Option.some.injEq] at hg'
    subst hg'
    rcases hat with m | m
    · exact (h.rs.lt _ m).1
    · omega
  · intro e
    simp only [Value.ownBlock, Option.some.injEq] at e
    subst e
    rcases hat with m | m
    · exact h.ne _ hg' m
    · have := own_lt h.ra hg'
      omega
  · rcases hS with m | m
    · exact (h.rs.lt _ m).1
    · subst m; exact h.ge
  · rcases hS with m | m
    · obtain ⟨cs', hb'⟩ := own_blk h.rs m
      exact h2 (Blk.uniq hb hb').1
    · subst m
      exact h1 (Blk.uniq hb h.blk).1
end
end Go.Proofs.Ytnccgpdniigekaa
/-
  The methods of the law's slots: what they tell, and write down.
-/
namespace Go.Proofs.Ytnccgpdniigekaa
open Go.RowKit
set_option linter.unusedVariables false
set_option linter.unusedSimpArgs false
attribute [local go_sem high] run_store_float

theorem infoPr : (Try.prog.info? 94).map (fun i => (i.zero, i.size, i.bytes)) = some (some (.agg #[.int .i64 0, .int .i64 0]), 2, 16) := by kernel_rfl
section
variable {w0 : World} {p : Nat} {AK : Option Addr} {cK : Nat} {AL : Option Addr} {cL : Nat} {eps : Int} {K : List Int} {ll : List (List Sg)} {a s : List (Nat × Nat)} {av sv : Value} {w w' : World}
theorem SlV.mid {v : Value} {n : Nat} {xs : List Value} {w1 : World} {o : Obj} (h : SlV w0 p AK cK AL cL eps K ll a s av sv w) (ho : w.ownsRow w0.heap.size 94 2 v n xs) (hgr : (w.alloc o).grownBy w1 v.ownBlock) :
    w1.cell? ⟨p, 3, none⟩ = some av ∧ w1.cell? ⟨p, 4, none⟩ = some sv ∧ w1.frozen? ⟨p, 3, none⟩ = false ∧ w1.frozen? ⟨p, 4, none⟩ = false := by
  have C1 : Chg (fun k => v.ownBlock = some k) w w1 := ((Chg.refl _ w).alloc o).grown hgr (fun k hk _ => hk)
  have hb := h.blk.chg C1 (own_ne_blk ho h.blk (by decide))
  exact ⟨hb.cell 3, hb.cell 4, hb.free 3, hb.free 4⟩
theorem sl_eps (h : SlV w0 p AK cK AL cL eps K ll a s av sv w) : Calls Try.prog 155 #[.pointer (some ⟨p, 0, none⟩)] w fun e w' => e = .returned (.int .i64 eps) ∧ w = w' := by
  obtain ⟨c0, c1, c2, c3, c4, c5⟩ := h.cells
  clear h
  go_enter Try.func155, Try.ntmps155
  go_wp2_with fail
  go_ret
  exact ⟨rfl, rfl⟩
theorem sl_height (h : SlV w0 p AK cK AL cL eps K ll a s av sv w) : Calls Try.prog 156 #[.pointer (some ⟨p, 0, none⟩)] w fun e w' => e = .returned (.int .i64 (ll.length : Int)) ∧ w = w' := by
  obtain ⟨c0, c1, c2, c3, c4, c5⟩ := h.cells
  clear h
  go_enter Try.func156, Try.ntmps156
  go_wp2_with fail
  go_ret
  exact ⟨rfl, rfl⟩
theorem len_pr {n : Nat} (h : n < 4000000000000) : n + 1 ≤ maxLen ∧ (n + 1) * 16 ≤ 140737488355328 := by unfold maxLen; omega
theorem one_pr (i j : Int) : ∀ u ∈ ([.int .i64 i, .int .i64 j] : List Value), u.oneCell' = true := by intro u hu; simp at hu; rcases hu with rfl | rfl <;> rfl
set_option maxHeartbeats 4000000 in
set_option maxRecDepth 100000 in
theorem sl_key0 (h : SlV w0 p AK cK AL cL eps K ll a s av sv w) {i : Nat} (hi : i < K.length) (ha : a.length < 4000000000000) :
    Calls Try.prog 157 #[.pointer (some ⟨p, 0, none⟩), .int .i64 0, .int .i64 (i : Int)] w fun e w' => e = .returned (.int .u64 (K.getD i 0)) ∧ StS w0 p AK cK AL cL eps K ll (a ++ [(0, i)]) s w' ∧ KeepT w w' := by
  obtain ⟨ip, hip, hp0, hp1, hp2⟩ := info_parts infoPr
  obtain ⟨c0, c1, c2, c3, c4, c5⟩ := h.cells
  have H := Lib.hid h
  obtain ⟨b1, b2⟩ := len_pr ha
  have HO : Hid ((w.alloc (.cells #[.int .i64 0, .int .i64 (i : Int)] 94)).ownsRow 0 94 2 av a.length (prs a)) := Lib.hid (own_chg (own_mono h.ra (fun _ _ => Nat.zero_le _)) ((Chg.refl (fun _ => False) w).alloc _) (fun _ _ h => h))
  have HF := Lib.hid (one_pr 0 (i : Int))
  obtain ⟨z1, z2, z3, z4⟩ := slot_num hi
  have z5 : ¬ ((ll.length : Int) < 0) := by omega
  have HA := Lib.hid (h.keys (Nat.lt_of_le_of_lt (Nat.zero_le _) hi))
  have HI := Lib.hid hi
  have e : K[i]'hi = K.getD i 0 := by rw [List.getD_eq_getElem?_getD, List.getElem?_eq_getElem hi]; rfl
  obtain ⟨k, hk⟩ : ∃ k, K.getD i 0 = k := ⟨_, rfl⟩
  rw [hk] at e ⊢
  clear h ha c0 c1 c2 c4 c5 hk
  go_enter Try.func157, Try.ntmps157
  go_upto_region 2 with (at_builtin; go_loud (refine wpList_append_lies _ rfl (.tmp 11) (.tmp 15) 51 (by rfl) 0 94 ip _ 2 16 Try.underlying51 hip hp0 hp1 hp2 rfl (by omega) av a.length (prs a) (by rfl) HO.out ⟨w.heap.size, 0, none⟩ 1 1 [.int .i64 0, .int .i64 (i : Int)] (by rfl) (by rfl) (World.news_of_block (Blk.new w 94 #[.int .i64 0, .int .i64 (i : Int)])) HF.out (by omega) b1 b2 (Nat.zero_le _) (w.heap.size + 1) (by simp) ?_; intro gn capn wn hown hgr hat hltn; obtain ⟨d3, d4, e3, e4⟩ := H.out.mid H.out.ra hgr; have P := Lib.hid (H.out.putA (i := 0) hown hgr hat); clear hown hgr hat hltn d4 e4))
  obtain ⟨w2, hw2⟩ : ∃ w2, wn.setCell ⟨p, 3, none⟩ (.slice (some ⟨gn, 0, none⟩) (a.length + 1) capn) = w2 := ⟨_, rfl⟩
  rw [hw2] at P ⊢
  obtain ⟨c0, c1, c2, c3', c4, c5⟩ := P.out.1.cells
  obtain ⟨b, o, rfl, hb, hc⟩ := HA.out
  have x0 := ((P.out.1.bel.cell (p := ⟨b, o + i, none⟩) hb).trans (hc i HI.out))
  rw [e] at x0
  clear hw2 hc hb c3 d3 e3 e hi
  go_wp2_with fail
  go_ret
  exact ⟨rfl, ⟨_, _, P.out.1⟩, P.out.2⟩
set_option maxHeartbeats 4000000 in
set_option maxRecDepth 100000 in
theorem sl_key1 (h : SlV w0 p AK cK AL cL eps K ll a s av sv w) {L i : Nat} (hL : L < ll.length) (hi : i < (ll.getD L []).length) (ha : a.length < 4000000000000) :
    Calls Try.prog 157 #[.pointer (some ⟨p, 0, none⟩), .int .i64 ((L : Int) + 1), .int .i64 (i : Int)] w fun e w' => e = .returned (.int .u64 ((ll.getD L []).getD i zS).first) ∧ StS w0 p AK cK AL cL eps K ll (a ++ [(L + 1, i)]) s w' ∧ KeepT w w' := by
  obtain ⟨ip, hip, hp0, hp1, hp2⟩ := info_parts infoPr
  obtain ⟨c0, c1, c2, c3, c4, c5⟩ := h.cells
  have H := Lib.hid h
  obtain ⟨b1, b2⟩ := len_pr ha
  have HO : Hid ((w.alloc (.cells #[.int .i64 ((L : Int) + 1), .int .i64 (i : Int)] 94)).ownsRow 0 94 2 av a.length (prs a)) := Lib.hid (own_chg (own_mono h.ra (fun _ _ => Nat.zero_le _)) ((Chg.refl (fun _ => False) w).alloc _) (fun _ _ h => h))
  have HF := Lib.hid (one_pr ((L : Int) + 1) (i : Int))
  obtain ⟨z1, z2, z3, z4, z5, z6, z7⟩ := lev_num hL
  have z8 := lev_wrap hL h.nl
  have z9 : (0 : Int) < (L : Int) + 1 := by omega
  obtain ⟨b, o, rfl, hb, hc⟩ := h.segs (Nat.lt_of_le_of_lt (Nat.zero_le _) hL)
  obtain ⟨A', c', x0, hs⟩ := hc L hL
  obtain ⟨l, hl⟩ : ∃ l, ll.getD L [] = l := ⟨_, rfl⟩
  rw [hl] at x0 hs hi ⊢
  obtain ⟨y1, y2, y3, y4⟩ := slot_num hi
  obtain ⟨b', o', rfl, hb', hc'⟩ := hs (Nat.lt_of_le_of_lt (Nat.zero_le _) hi)
  have HX := Lib.hid (And.intro hb (And.intro x0 (And.intro hb' (hc' i hi))))
  obtain ⟨f, hf⟩ : ∃ f, (l.getD i zS).first = f := ⟨_, rfl⟩
  have HFF := Lib.hid hf
  rw [hf]
  clear h hi ha c0 c1 c2 c4 c5 hl x0 hc hs hb hb' hc' hf
  go_enter Try.func157, Try.ntmps157
  go_upto_region 2 with (at_builtin; go_loud (refine wpList_append_lies _ rfl (.tmp 11) (.tmp 15) 51 (by rfl) 0 94 ip _ 2 16 Try.underlying51 hip hp0 hp1 hp2 rfl (by omega) av a.length (prs a) (by rfl) HO.out ⟨w.heap.size, 0, none⟩ 1 1 [.int .i64 ((L : Int) + 1), .int .i64 (i : Int)] (by rfl) (by rfl) (World.news_of_block (Blk.new w 94 #[.int .i64 ((L : Int) + 1), .int .i64 (i : Int)])) HF.out (by omega) b1 b2 (Nat.zero_le _) (w.heap.size + 1) (by simp) ?_; intro gn capn wn hown hgr hat hltn; obtain ⟨d3, d4, e3, e4⟩ := H.out.mid H.out.ra hgr; have P := Lib.hid (H.out.putA (i := L + 1) hown hgr hat); clear hown hgr hat hltn d4 e4))
  obtain ⟨w2, hw2⟩ : ∃ w2, wn.setCell ⟨p, 3, none⟩ (.slice (some ⟨gn, 0, none⟩) (a.length + 1) capn) = w2 := ⟨_, rfl⟩
  rw [hw2] at P ⊢
  obtain ⟨c0, c1, c2, c3', c4, c5⟩ := P.out.1.cells
  have x0 := (P.out.1.bel.cell (p := ⟨b, o + L, none⟩) HX.out.1).trans HX.out.2.1
  have s0 := (HX.out.2.2.2.below P.out.1.bel HX.out.2.2.1).1
  rw [HFF.out] at s0
  clear hw2 c3 d3 e3
  go_wp2_with fail
  go_ret
  exact ⟨rfl, ⟨_, _, P.out.1⟩, P.out.2⟩
set_option maxHeartbeats 4000000 in
set_option maxRecDepth 100000 in
theorem sl_seg (h : SlV w0 p AK cK AL cL eps K ll a s av sv w) {L i : Nat} (hL : L < ll.length) (hi : i < (ll.getD L []).length) (ha : s.length < 4000000000000) :
    Calls Try.prog 158 #[.pointer (some ⟨p, 0, none⟩), .int .i64 ((L : Int) + 1), .int .i64 (i : Int)] w fun e w' => e = .returned ((ll.getD L []).getD i zS).v ∧ StS w0 p AK cK AL cL eps K ll a (s ++ [(L + 1, i)]) w' ∧ KeepT w w' := by
  obtain ⟨ip, hip, hp0, hp1, hp2⟩ := info_parts infoPr
  have KN : Hid (KeepT w (w.alloc (.cells #[.int .u64 0, .float .f64 0, .float .f64 0, .int .i64 0, .int .i64 0] 33))) := Lib.hid (KeepT.of_below (below_new (Below.refl _ _) _))
  have G := Blk.new w 33 #[.int .u64 0, .float .f64 0, .float .f64 0, .int .i64 0, .int .i64 0]
  have hh := h.below (below_new (Below.refl _ _) (.cells #[.int .u64 0, .float .f64 0, .float .f64 0, .int .i64 0, .int .i64 0] 33))
  obtain ⟨wa, hwa⟩ : ∃ wa, w.alloc (.cells #[.int .u64 0, .float .f64 0, .float .f64 0, .int .i64 0, .int .i64 0] 33) = wa := ⟨_, rfl⟩
  have HW0 : Hid (w0.heap.size ≤ w.heap.size) := Lib.hid h.bel.size
  rw [hwa] at KN G hh
  obtain ⟨gs, hgs⟩ : ∃ gs, w.heap.size = gs := ⟨_, rfl⟩
  have HGS : Hid (w.heap.size ≤ gs) := Lib.hid (Nat.le_of_eq hgs)
  have HGW : Hid (gs ≤ wa.heap.size) := Lib.hid (by rw [← hgs, ← hwa]; simp)
  rw [hgs] at G HW0
  obtain ⟨c0, c1, c2, c3, c4, c5⟩ := hh.cells
  have H := Lib.hid hh
  have HG := Lib.hid G
  obtain ⟨b1, b2⟩ := len_pr ha
  have HO : Hid ((wa.alloc (.cells #[.int .i64 ((L : Int) + 1), .int .i64 (i : Int)] 94)).ownsRow 0 94 2 sv s.length (prs s)) := Lib.hid (own_chg (own_mono hh.rs (fun _ _ => Nat.zero_le _)) ((Chg.refl (fun _ => False) wa).alloc _) (fun _ _ h => h))
  have HF := Lib.hid (one_pr ((L : Int) + 1) (i : Int))
  obtain ⟨z1, z2, z3, z4, z5, z6, z7⟩ := lev_num hL
  have z8 := lev_wrap hL h.nl
  obtain ⟨b, o, rfl, hb, hc⟩ := h.segs (Nat.lt_of_le_of_lt (Nat.zero_le _) hL)
  obtain ⟨A', c', x0, hs⟩ := hc L hL
  obtain ⟨l, hl⟩ : ∃ l, ll.getD L [] = l := ⟨_, rfl⟩
  rw [hl] at x0 hs hi ⊢
  obtain ⟨y1, y2, y3, y4⟩ := slot_num hi
  obtain ⟨b', o', rfl, hb', hc'⟩ := hs (Nat.lt_of_le_of_lt (Nat.zero_le _) hi)
  have HX := Lib.hid (And.intro hb (And.intro x0 (And.intro hb' (hc' i hi))))
  obtain ⟨f, hf⟩ : ∃ f, l.getD i zS = f := ⟨_, rfl⟩
  have HFF := Lib.hid hf
  rw [hf]
  clear h hh hi ha c0 c1 c2 c3 c5 hl x0 hc hs hb hb' hc' hf G
  go_enter Try.func158, Try.ntmps158
  go_upto_region 1 with fail
  (try rw [hwa]); (try rw [hgs])
  clear hwa hgs
  go_upto_region 2 with (at_builtin; go_loud (refine wpList_append_lies _ rfl (.tmp 11) (.tmp 15) 51 (by rfl) 0 94 ip _ 2 16 Try.underlying51 hip hp0 hp1 hp2 rfl (by omega) sv s.length (prs s) (by rfl) HO.out ⟨wa.heap.size, 0, none⟩ 1 1 [.int .i64 ((L : Int) + 1), .int .i64 (i : Int)] (by rfl) (by rfl) (World.news_of_block (Blk.new wa 94 #[.int .i64 ((L : Int) + 1), .int .i64 (i : Int)])) HF.out (by omega) b1 b2 (Nat.zero_le _) (wa.heap.size + 1) (by simp) ?_; intro gn capn wn hown hgr hat hltn; obtain ⟨d3, d4, e3, e4⟩ := H.out.mid H.out.rs hgr; have P := Lib.hid (H.out.putS (i := L + 1) hown hgr hat); clear hown hgr hat hltn d3 e3))
  obtain ⟨w2, hw2⟩ : ∃ w2, wn.setCell ⟨p, 4, none⟩ (.slice (some ⟨gn, 0, none⟩) (s.length + 1) capn) = w2 := ⟨_, rfl⟩
  rw [hw2] at P ⊢
  obtain ⟨c0, c1, c2, c3, c4', c5⟩ := P.out.1.cells
  have x0 := (P.out.1.bel.cell (p := ⟨b, o + L, none⟩) HX.out.1).trans HX.out.2.1
  obtain ⟨s0, s1, s2, s3, s4⟩ := HX.out.2.2.2.below P.out.1.bel HX.out.2.2.1
  rw [HFF.out] at s0 s1 s2 s3 s4
  obtain ⟨a0, a1, a2, a3, a4⟩ := f
  simp only [] at s0 s1 s2 s3 s4
  have B2 := Lib.hid (P.out.2.blk gs _ _ HG.out (by decide) (by decide))
  have t0 := B2.out.cell 0; have t1 := B2.out.cell 1; have t2 := B2.out.cell 2; have t3 := B2.out.cell 3; have t4 := B2.out.cell 4
  have f0 := B2.out.free 0; have f1 := B2.out.free 1; have f2 := B2.out.free 2; have f3 := B2.out.free 3; have f4 := B2.out.free 4
  have B3 := Lib.hid (((((B2.out.set 0 (.int .u64 a0)).set 1 (.float .f64 a1)).set 2 (.float .f64 a2)).set 3 (.int .i64 a3)).set 4 (.int .i64 a4))
  have C3 : Hid (Chg (fun k => k = gs) w2 (((((w2.setCell ⟨gs, 0, none⟩ (.int .u64 a0)).setCell ⟨gs, 1, none⟩ (.float .f64 a1)).setCell ⟨gs, 2, none⟩ (.float .f64 a2)).setCell ⟨gs, 3, none⟩ (.int .i64 a3)).setCell ⟨gs, 4, none⟩ (.int .i64 a4))) := Lib.hid ((((((Chg.refl (fun k => k = gs) w2).setCell (p := ⟨gs, 0, none⟩) (fun _ => rfl) _).setCell (p := ⟨gs, 1, none⟩) (fun _ => rfl) _).setCell (p := ⟨gs, 2, none⟩) (fun _ => rfl) _).setCell (p := ⟨gs, 3, none⟩) (fun _ => rfl) _).setCell (p := ⟨gs, 4, none⟩) (fun _ => rfl) _)
  clear hw2 c4 d4 e4
  go_wp2_with fail
  refine bodyPost_ret (v := .agg #[.int .u64 a0, .float .f64 a1, .float .f64 a2, .int .i64 a3, .int .i64 a4]) (results_c (p := 6) (ty := 33) (t := 33) rfl _ rfl ?_ Try.underlying33 rfl (by kernel_rfl)) rfl ⟨rfl, ?_, ?_⟩
  · exact B3.out
  · exact ⟨_, _, P.out.1.chg C3.out (fun k hk e => by subst e; exact ⟨HW0.out, _, _, B2.out, by decide, by decide⟩)⟩
  · exact (KN.out.trans P.out.2).chg C3.out (fun k hk e => by subst e; exact HGS.out)
/-- Of the slots, by whatever they were asked. -/
theorem StS.eps_ (h : StS w0 p AK cK AL cL eps K ll a s w) : Calls Try.prog 155 #[.pointer (some ⟨p, 0, none⟩)] w fun e w' => e = .returned (.int .i64 eps) ∧ w = w' := by obtain ⟨av, sv, h⟩ := h; exact sl_eps h
theorem StS.height (h : StS w0 p AK cK AL cL eps K ll a s w) : Calls Try.prog 156 #[.pointer (some ⟨p, 0, none⟩)] w fun e w' => e = .returned (.int .i64 (ll.length : Int)) ∧ w = w' := by obtain ⟨av, sv, h⟩ := h; exact sl_height h
theorem StS.key (h : StS w0 p AK cK AL cL eps K ll a s w) {L i : Nat} (hL : L ≤ ll.length) (hi : i < (keysAt K ll L).length) (ha : a.length < 4000000000000) :
    Calls Try.prog 157 #[.pointer (some ⟨p, 0, none⟩), .int .i64 (L : Int), .int .i64 (i : Int)] w fun e w' => e = .returned (.int .u64 ((keysAt K ll L).getD i 0)) ∧ StS w0 p AK cK AL cL eps K ll (a ++ [(L, i)]) s w' ∧ KeepT w w' := by
  obtain ⟨av, sv, h⟩ := h
  cases L with
  | zero => rw [keysAt_zero] at hi ⊢; exact sl_key0 h hi ha
  | succ L =>
    rw [keysAt_succ] at hi ⊢
    rw [firsts_len] at hi
    rw [firsts_getD _ hi]
    exact sl_key1 h hL hi ha
theorem StS.seg (h : StS w0 p AK cK AL cL eps K ll a s w) {L i : Nat} (hL : L < ll.length) (hi : i < (ll.getD L []).length) (ha : s.length < 4000000000000) :
    Calls Try.prog 158 #[.pointer (some ⟨p, 0, none⟩), .int .i64 ((L : Int) + 1), .int .i64 (i : Int)] w fun e w' => e = .returned ((ll.getD L []).getD i zS).v ∧ StS w0 p AK cK AL cL eps K ll a (s ++ [(L + 1, i)]) w' ∧ KeepT w w' := by
  obtain ⟨av, sv, h⟩ := h
  exact sl_seg h hL hi ha
end
end Go.Proofs.Ytnccgpdniigekaa
