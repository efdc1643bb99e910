/-
  Segments in memory; the keys of segments (levels.firsts).
-/
import Derived.Test.YtnccgpdniigekaaQMdOf
import Derived.Test.YtnccgpdniigekaaQG7
import Derived.Test.YtnccgpdniigekaaQG22
import Derived.Test.YtnccgpdniigekaaQG21
import Derived.Test.YtnccgpdniigekaaQG20
namespace Go.Proofs.Ytnccgpdniigekaa
open Go.RowKit
set_option linter.unusedVariables false
set_option linter.unusedSimpArgs false
attribute [local go_sem high] run_store_float

def zS : Sg := ⟨0, 0, 0, 0, 0⟩
/-- A segment's cells. -/
def scells (s : Sg) : List Value := [.int .u64 s.first, .float .f64 s.sl, .float .f64 s.ic, .int .i64 s.fr, .int .i64 s.up]
def sflat (l : List Sg) : List Value := l.flatMap scells
theorem length_scells (s : Sg) : (scells s).length = 5 := rfl
theorem sflat_nil : sflat [] = [] := rfl
theorem sflat_cons (e : Sg) (es : List Sg) : sflat (e :: es) = scells e ++ sflat es := rfl
theorem sflat_append (a b : List Sg) : sflat (a ++ b) = sflat a ++ sflat b := by simp [sflat]
theorem length_sflat : ∀ es : List Sg, (sflat es).length = es.length * 5
  | [] => rfl
  | e :: es => by rw [sflat_cons, List.length_append, length_sflat es, length_scells, List.length_cons]; omega
theorem sflat_get : ∀ (es : List Sg) (i j : Nat) (h : i < es.length), j < 5 → (sflat es)[i * 5 + j]? = (scells es[i])[j]?
  | e :: es, 0, j, _, hj => by rw [sflat_cons, List.getElem?_append_left (by rw [length_scells]; omega)]; simp
  | e :: es, i + 1, j, h, hj => by
    rw [sflat_cons, List.getElem?_append_right (by rw [length_scells]; omega), length_scells]
    have := sflat_get es i j (by simpa using h) hj
    rw [show (i + 1) * 5 + j - 5 = i * 5 + j from by omega, this]
    rfl
theorem sflat_one (es : List Sg) : ∀ u ∈ sflat es, u.oneCell' = true := by
  intro u hu
  obtain ⟨e, _, he⟩ := List.mem_flatMap.1 hu
  simp [scells] at he
  rcases he with rfl | rfl | rfl | rfl | rfl <;> rfl

/-- A segment lies there. -/
def SegAt (w : World) (b o : Nat) (s : Sg) : Prop :=
  w.cell? ⟨b, o, none⟩ = some (.int .u64 s.first) ∧ w.cell? ⟨b, o + 1, none⟩ = some (.float .f64 s.sl) ∧ w.cell? ⟨b, o + 2, none⟩ = some (.float .f64 s.ic) ∧ w.cell? ⟨b, o + 3, none⟩ = some (.int .i64 s.fr) ∧ w.cell? ⟨b, o + 4, none⟩ = some (.int .i64 s.up)
theorem SegAt.below {w w' : World} {b o : Nat} {s : Sg} (h : SegAt w b o s) {B : Nat} (k : Below B w w') (hb : b < B) : SegAt w' b o s :=
  ⟨(k.cell (p := ⟨b, _, none⟩) hb).trans h.1, (k.cell (p := ⟨b, _, none⟩) hb).trans h.2.1, (k.cell (p := ⟨b, _, none⟩) hb).trans h.2.2.1, (k.cell (p := ⟨b, _, none⟩) hb).trans h.2.2.2.1, (k.cell (p := ⟨b, _, none⟩) hb).trans h.2.2.2.2⟩
/-- The slice reads as these segments; they lie in a block that was there. -/
def ArgS (w : World) (A : Option Addr) (l : List Sg) : Prop := 0 < l.length → ∃ b o, A = some ⟨b, o, none⟩ ∧ b < w.heap.size ∧ ∀ i, i < l.length → SegAt w b (o + i * 5) (l.getD i zS)
theorem ArgS.below {w w' : World} {A : Option Addr} {l : List Sg} (h : ArgS w A l) (k : Below w.heap.size w w') : ArgS w' A l := fun hn => by
  obtain ⟨b, o, hA, hb, hc⟩ := h hn
  exact ⟨b, o, hA, Nat.lt_of_lt_of_le hb k.size, fun i hi => (hc i hi).below k hb⟩
theorem ArgS.nil (w : World) (A : Option Addr) : ArgS w A [] := fun h => absurd h (by simp)
/-- Segments that a block holds from its head on. -/
theorem seg_at_blk {w : World} {g : Nat} {l : List Sg} (h : Blk w g 33 (sflat l).toArray) {i : Nat} (hi : i < l.length) : SegAt w g (i * 5) (l.getD i zS) := by
  have e : l.getD i zS = l[i] := by rw [List.getD_eq_getElem?_getD, List.getElem?_eq_getElem hi]; rfl
  rw [e]
  have key : ∀ j, j < 5 → w.cell? ⟨g, i * 5 + j, none⟩ = (scells l[i])[j]? := by
    intro j hj
    rw [h.cell, ← sflat_get l i j hi hj]; simp
  exact ⟨by simpa [scells] using key 0 (by omega), by simpa [scells] using key 1 (by omega), by simpa [scells] using key 2 (by omega), by simpa [scells] using key 3 (by omega), by simpa [scells] using key 4 (by omega)⟩
theorem args_blk {w : World} {g : Nat} {l : List Sg} (h : Blk w g 33 (sflat l).toArray) : ArgS w (some ⟨g, 0, none⟩) l := fun _ =>
  ⟨g, 0, rfl, h.lt, fun i hi => by rw [Nat.zero_add]; exact seg_at_blk h hi⟩

/-- The keys of segments. -/
def firstsL (l : List Sg) : List Int := l.map (·.first)
theorem firsts_len (l : List Sg) : (firstsL l).length = l.length := by simp [firstsL]
theorem firsts_getD (l : List Sg) {i : Nat} (hi : i < l.length) : (firstsL l).getD i 0 = (l.getD i zS).first := by
  rw [List.getD_eq_getElem?_getD, List.getD_eq_getElem?_getD, firstsL, List.getElem?_map, List.getElem?_eq_getElem hi]; rfl
/-- So far filled. -/
def fsC (l : List Sg) (i : Nat) : List Value := ((firstsL l).take i).map (Value.int .u64) ++ List.replicate (l.length - i) (.int .u64 0)
theorem fsC_zero (l : List Sg) : fsC l 0 = List.replicate l.length (.int .u64 0) := by simp [fsC]
theorem fsC_all (l : List Sg) : fsC l l.length = (firstsL l).map (Value.int .u64) := by
  unfold fsC
  rw [List.take_of_length_le (by rw [firsts_len]; exact Nat.le_refl _)]; simp
theorem fsC_set (l : List Sg) {i : Nat} (hi : i < l.length) : (fsC l i).toArray.setIfInBounds i (.int .u64 (l.getD i zS).first) = (fsC l (i + 1)).toArray := by
  have hl : i < (firstsL l).length := by rw [firsts_len]; exact hi
  have ht : (((firstsL l).take i).map (Value.int .u64)).length = i := by rw [List.length_map, List.length_take, firsts_len]; omega
  rw [List.setIfInBounds_toArray]
  unfold fsC
  rw [List.set_append_right _ _ (by omega), ht, Nat.sub_self, List.take_succ_eq_append_getElem hl, List.map_append, List.append_assoc]
  congr 2
  have e : l.length - i = (l.length - (i + 1)) + 1 := by omega
  rw [e, List.replicate_succ]
  have := firsts_getD l hi
  rw [List.getD_eq_getElem?_getD, List.getElem?_eq_getElem hl] at this
  simp only [Option.getD_some] at this
  simp [this]
theorem fsC_get (l : List Sg) {i : Nat} (hi : i < l.length) : (fsC l i)[i]? = some (.int .u64 0) := by
  have ht : (((firstsL l).take i).map (Value.int .u64)).length = i := by rw [List.length_map, List.length_take, firsts_len]; omega
  unfold fsC
  rw [List.getElem?_append_right (by omega), ht, Nat.sub_self, List.getElem?_replicate, if_pos (by omega)]

set_option maxHeartbeats 4000000 in
set_option maxRecDepth 100000 in
theorem firsts_any (A : Option Addr) (c : Nat) (l : List Sg) (hn : l.length ≤ 17592186044416) (w : World) (hA : ArgS w A l) :
    Calls Try.prog 42 #[.slice A l.length c] w fun e w' => ∃ g, e = .returned (.slice (some ⟨g, 0, none⟩) l.length l.length) ∧ w.heap.size ≤ g ∧ Blk w' g 24 ((firstsL l).map (Value.int .u64)).toArray ∧ Below w.heap.size w w' := by
  obtain ⟨i0, hi, hz0, hz1, hz2⟩ := info_parts infoU
  have HA := Lib.hid hA
  clear hA
  have HB : Hid (Blk (w.alloc (.cells (madeCells #[Value.int .u64 0] l.length) 24)) w.heap.size 24 (fsC l 0).toArray ∧ Below w.heap.size w (w.alloc (.cells (madeCells #[Value.int .u64 0] l.length) 24))) := Lib.hid ⟨by rw [made_list, fsC_zero]; exact Blk.new _ _ _, below_new (Below.refl _ _) _⟩
  go_enter Try.func42, Try.ntmps42
  go_wp2_with (refine wpList_make_row _ rfl (.tmp 7) (.tmp 7) 22 rfl 24 i0 _ Try.underlying22 hi hz0 hz1 rfl .i64 .i64 l.length (by rfl) (by rfl) (by rw [hz2]; omega) (by omega) ?_)
  go_loopw [11] (fun x wr => ∃ i : Nat, i ≤ l.length ∧ x = .int .i64 i ∧ Hid (Blk wr w.heap.size 24 (fsC l i).toArray ∧ Below w.heap.size w wr)) (fun x _ => l.length - (intOf x).toNat)
  case atStart => exact ⟨0, Nat.zero_le _, rfl, HB⟩
  case round =>
    obtain ⟨i, hi', rfl, H⟩ := hrel
    clear HB hi hz0 hz1 hz2
    by_cases hlt : i < l.length
    · have i0' : (0 : Int) ≤ (i : Int) := by omega
      have i1 : (i : Int) < (l.length : Int) := by omega
      obtain ⟨b, o, rfl, hb, hc⟩ := HA.out (by omega)
      obtain ⟨s0, s1, s2, s3, s4⟩ := (hc i hlt).below H.out.2 hb
      have ST := Lib.hid (fsC_set l hlt)
      have SG := Lib.hid (fsC_get l hlt)
      obtain ⟨⟨first, sl, ic, fr, up⟩, hs⟩ : ∃ s, l.getD i zS = s := ⟨_, rfl⟩
      rw [hs] at s0 s1 s2 s3 s4 ST
      simp only [] at s0 s1 s2 s3 s4 ST
      clear hc hs
      have K := Lib.hid (And.intro (H.out.1.alloc (.cells #[.int .u64 first, .float .f64 sl, .float .f64 ic, .int .i64 fr, .int .i64 up] 33)) (below_new H.out.2 (.cells #[.int .u64 first, .float .f64 sl, .float .f64 ic, .int .i64 fr, .int .i64 up] 33)))
      have x0 : (wr.alloc (.cells #[.int .u64 first, .float .f64 sl, .float .f64 ic, .int .i64 fr, .int .i64 up] 33)).cell? ⟨w.heap.size, i, none⟩ = some (.int .u64 0) := by rw [K.out.1.cell]; simpa using SG.out
      have f0 := K.out.1.free i
      have K2 := Lib.hid (And.intro ((K.out.1.set i (.int .u64 first)).congr ST.out) (K.out.2.setCell (p := ⟨w.heap.size, i, none⟩) (Nat.le_refl _) (.int .u64 first)))
      go_wp2_with fail
      go_roundw
      case rel => exact ⟨i + 1, by omega, by go_num, K2⟩
      case measure => simp [intOf]; omega
    · obtain rfl : i = l.length := by omega
      have i1 : ¬ (l.length : Int) < (l.length : Int) := by omega
      go_wp2_with fail
      go_ret
      exact ⟨w.heap.size, rfl, Nat.le_refl _, by have := H.out.1; rwa [fsC_all] at this, H.out.2⟩
end Go.Proofs.Ytnccgpdniigekaa
/-
  Plain: the stretches of keys, the level over keys.
-/
namespace Go.Proofs.Ytnccgpdniigekaa
open Go.RowKit
set_option linter.unusedVariables false
set_option linter.unusedSimpArgs false

/-- Where the i-th stretch begins. -/
def begN (E : List Nat) (i : Nat) : Nat := prevN 0 E i
theorem begN_zero (E : List Nat) : begN E 0 = 0 := rfl
theorem begN_succ (E : List Nat) (i : Nat) : begN E (i + 1) = E.getD i 0 := by simp [begN, prevN]
/-- Keys from p on, to t. -/
def stretch (K : List Int) (p t : Nat) : List Int := (K.drop p).take (t - p)
theorem stretch_len {K : List Int} {p t : Nat} (h : t ≤ K.length) : (stretch K p t).length = t - p := by
  unfold stretch; rw [List.length_take, List.length_drop]; omega
theorem stretch_getD {K : List Int} {p t i : Nat} (hi : i < t - p) : (stretch K p t).getD i 0 = K.getD (p + i) 0 := by
  unfold stretch
  rw [List.getD_eq_getElem?_getD, List.getD_eq_getElem?_getD, List.getElem?_take, if_pos hi, List.getElem?_drop]
theorem stretch_up {K : List Int} (h : K.Pairwise (· < ·)) (p t : Nat) : (stretch K p t).Pairwise (· < ·) := by
  unfold stretch
  exact (h.sublist (List.drop_sublist p K)).sublist (List.take_sublist _ _)
theorem U64s.stretch {K : List Int} (h : U64s K) (p t : Nat) : U64s (stretch K p t) := fun x hx => by
  unfold Go.Proofs.Ytnccgpdniigekaa.stretch at hx
  exact h x (List.mem_of_mem_drop (List.mem_of_mem_take hx))
theorem ArgU.stretch {w : World} {b o : Nat} {K : List Int} (h : ArgU w (some ⟨b, o, none⟩) K) (p t : Nat) : ArgU w (some ⟨b, o + p, none⟩) (stretch K p t) := fun hn => by
  have hl : (Go.Proofs.Ytnccgpdniigekaa.stretch K p t).length ≤ K.length - p := by unfold Go.Proofs.Ytnccgpdniigekaa.stretch; rw [List.length_take, List.length_drop]; omega
  obtain ⟨b', o', hA, hb, hc⟩ := h (by omega)
  injection hA with hA
  injection hA with e1 e2
  subst e1 e2
  refine ⟨b, o + p, rfl, hb, fun i hi => ?_⟩
  have hit : i < t - p := by
    have : (Go.Proofs.Ytnccgpdniigekaa.stretch K p t).length ≤ t - p := by unfold Go.Proofs.Ytnccgpdniigekaa.stretch; rw [List.length_take]; omega
    omega
  have e : (Go.Proofs.Ytnccgpdniigekaa.stretch K p t)[i] = K[p + i]'(by omega) := by
    have h1 : (Go.Proofs.Ytnccgpdniigekaa.stretch K p t)[i]? = K[p + i]? := by unfold Go.Proofs.Ytnccgpdniigekaa.stretch; rw [List.getElem?_take, if_pos hit, List.getElem?_drop]
    rw [List.getElem?_eq_getElem hi, List.getElem?_eq_getElem (by omega)] at h1
    exact Option.some.inj h1
  rw [e, Nat.add_assoc]
  exact hc (p + i) (by omega)

/-- The segment of the i-th stretch. -/
noncomputable def segI (K : List Int) (eps : Int) (E : List Nat) (i : Nat) : Sg := (ofS (stretch K (begN E i) (E.getD i 0)) eps (begN E i)).1
/-- The first so many segments. -/
noncomputable def segsN (K : List Int) (eps : Int) (E : List Nat) (n : Nat) : List Sg := (List.range n).map (segI K eps E)
/-- The level over keys. -/
noncomputable def overL (K : List Int) (eps : Int) : List Sg := segsN K eps (ansL eps K) (ansL eps K).length
theorem segsN_len (K : List Int) (eps : Int) (E : List Nat) (n : Nat) : (segsN K eps E n).length = n := by simp [segsN]
theorem segsN_succ (K : List Int) (eps : Int) (E : List Nat) (n : Nat) : segsN K eps E (n + 1) = segsN K eps E n ++ [segI K eps E n] := by simp [segsN, List.range_succ]
theorem segsN_getD {K : List Int} {eps : Int} {E : List Nat} {n i : Nat} (h : i < n) : (segsN K eps E n).getD i zS = segI K eps E i := by
  rw [List.getD_eq_getElem?_getD, segsN, List.getElem?_map, List.getElem?_range h]; rfl
theorem overL_len (K : List Int) (eps : Int) : (overL K eps).length = (ansL eps K).length := segsN_len ..

/-- Where the stretches lie. -/
structure EndsOk (E : List Nat) (n : Nat) : Prop where
  at_ : ∀ i, i < E.length → begN E i < E.getD i 0 ∧ E.getD i 0 ≤ n
  len : E.length ≤ n
theorem endsL_ok {e : Int} (he : 0 ≤ e) {K : List Int} (hu : K.Pairwise (· < ·)) (h0 : 0 < K.length) : EndsOk (endsL e K) K.length := by
  obtain ⟨outs, h1, h2, h3, h4⟩ := few he hu h0
  have hs : Spc 1 ((0 : Nat) : Int) (outs ++ [K.length]) := by
    have key : ∀ {l : List Nat} {p : Int}, Spc (2 * e + 1) p l → Spc 1 p l := by
      intro l
      induction l with
      | nil => intro p _; trivial
      | cons a r ih => intro p h; exact ⟨by have := h.1; omega, ih h.2⟩
    exact (key h2).snoc (p := 0) (by omega)
  rw [h1]
  have hup : ∀ i (h : i < (outs ++ [K.length]).length), (outs ++ [K.length])[i] ≤ K.length := by
    have key : ∀ d i, i + d + 1 = (outs ++ [K.length]).length → ∀ (h : i < (outs ++ [K.length]).length), (outs ++ [K.length])[i] ≤ K.length := by
      intro d
      induction d with
      | zero =>
        intro i hi h
        have : i = outs.length := by simp at hi; omega
        subst this
        simp
      | succ d ih =>
        intro i hi h
        have h5 := ih (i + 1) (by omega) (by omega)
        have h6 := Spc.at (p := 0) hs (i + 1) (by omega)
        simp only [prevN, Nat.add_eq_zero_iff, Nat.one_ne_zero, and_false, if_false, Nat.add_sub_cancel] at h6
        rw [List.getD_eq_getElem?_getD, List.getElem?_eq_getElem h] at h6
        simp only [Option.getD_some] at h6
        omega
    intro i h
    exact key ((outs ++ [K.length]).length - 1 - i) i (by omega) h
  refine ⟨fun i hi => ?_, ?_⟩
  · have h6 := Spc.at (p := 0) hs i hi
    have e1 : (outs ++ [K.length]).getD i 0 = (outs ++ [K.length])[i] := by rw [List.getD_eq_getElem?_getD, List.getElem?_eq_getElem hi]; rfl
    rw [e1]
    refine ⟨?_, hup i hi⟩
    unfold begN; omega
  · rw [← h1]; exact endsL_len he K
theorem ansL_ok (eps : Int) (K : List Int) : EndsOk (ansL eps K) K.length := by
  by_cases hg : Good eps K
  · have e : ansL eps K = endsL (eps - 1) K := by unfold ansL; rw [if_pos hg]
    rw [e]
    by_cases h0 : 0 < K.length
    · exact endsL_ok (by have := hg.1; omega) hg.2.2 h0
    · have : endsL (eps - 1) K = [] := by unfold endsL; rw [if_pos (by omega)]
      rw [this]
      exact ⟨fun i hi => absurd hi (by simp), by simp⟩
  · have e : ansL eps K = [] := by unfold ansL; rw [if_neg hg]
    rw [e]
    exact ⟨fun i hi => absurd hi (by simp), by simp⟩

/-- So far filled. -/
noncomputable def ovC (K : List Int) (eps : Int) (E : List Nat) (i : Nat) : List Sg := segsN K eps E i ++ List.replicate (E.length - i) zS
theorem ovC_zero (K : List Int) (eps : Int) (E : List Nat) : ovC K eps E 0 = List.replicate E.length zS := by simp [ovC, segsN]
theorem ovC_all (K : List Int) (eps : Int) (E : List Nat) : ovC K eps E E.length = segsN K eps E E.length := by simp [ovC]
theorem ovC_len (K : List Int) (eps : Int) (E : List Nat) {i : Nat} (h : i ≤ E.length) : (ovC K eps E i).length = E.length := by
  unfold ovC; rw [List.length_append, segsN_len, List.length_replicate]; omega
theorem ovC_set (K : List Int) (eps : Int) (E : List Nat) {i : Nat} (h : i < E.length) : (ovC K eps E i).set i (segI K eps E i) = ovC K eps E (i + 1) := by
  unfold ovC
  rw [List.set_append_right _ _ (by rw [segsN_len]; exact Nat.le_refl _), segsN_len, Nat.sub_self, segsN_succ, List.append_assoc]
  congr 1
  have e : E.length - i = (E.length - (i + 1)) + 1 := by omega
  rw [e, List.replicate_succ]; rfl
/-- Five cells of a row of segments written anew. -/
theorem sflat_set : ∀ (l : List Sg) (i : Nat) (s : Sg), i < l.length →
    (((((sflat l).set (i * 5) (.int .u64 s.first)).set (i * 5 + 1) (.float .f64 s.sl)).set (i * 5 + 2) (.float .f64 s.ic)).set (i * 5 + 3) (.int .i64 s.fr)).set (i * 5 + 4) (.int .i64 s.up) = sflat (l.set i s)
  | [], i, s, h => absurd h (by simp)
  | e :: es, 0, s, _ => by rw [sflat_cons, List.set_cons_zero, sflat_cons]; simp [scells]
  | e :: es, i + 1, s, h => by
    rw [List.set_cons_succ, sflat_cons, sflat_cons, ← sflat_set es i s (by simpa using h)]
    have hl : (scells e).length = 5 := rfl
    rw [List.set_append_right _ _ (by omega), List.set_append_right _ _ (by omega), List.set_append_right _ _ (by omega), List.set_append_right _ _ (by omega), List.set_append_right _ _ (by omega), hl]
    rw [show (i + 1) * 5 - 5 = i * 5 by omega, show (i + 1) * 5 + 1 - 5 = i * 5 + 1 by omega, show (i + 1) * 5 + 2 - 5 = i * 5 + 2 by omega, show (i + 1) * 5 + 3 - 5 = i * 5 + 3 by omega, show (i + 1) * 5 + 4 - 5 = i * 5 + 4 by omega]
theorem Blk.seg5 {w : World} {g : Nat} {l : List Sg} (h : Blk w g 33 (sflat l).toArray) {i : Nat} (hi : i < l.length) (s : Sg) :
    Blk (((((w.setCell ⟨g, i * 5, none⟩ (.int .u64 s.first)).setCell ⟨g, i * 5 + 1, none⟩ (.float .f64 s.sl)).setCell ⟨g, i * 5 + 2, none⟩ (.float .f64 s.ic)).setCell ⟨g, i * 5 + 3, none⟩ (.int .i64 s.fr)).setCell ⟨g, i * 5 + 4, none⟩ (.int .i64 s.up)) g 33 (sflat (l.set i s)).toArray := by
  have := ((((h.set (i * 5) (.int .u64 s.first)).set (i * 5 + 1) (.float .f64 s.sl)).set (i * 5 + 2) (.float .f64 s.ic)).set (i * 5 + 3) (.int .i64 s.fr)).set (i * 5 + 4) (.int .i64 s.up)
  rw [List.setIfInBounds_toArray, List.setIfInBounds_toArray, List.setIfInBounds_toArray, List.setIfInBounds_toArray, List.setIfInBounds_toArray, sflat_set l i s hi] at this
  exact this
theorem below_seg5 {w a : World} {B g k0 k1 k2 k3 k4 : Nat} {u v x y z : Value} (h : Below B a w) (hB : B ≤ g) : Below B a (((((w.setCell ⟨g, k0, none⟩ u).setCell ⟨g, k1, none⟩ v).setCell ⟨g, k2, none⟩ x).setCell ⟨g, k3, none⟩ y).setCell ⟨g, k4, none⟩ z) := ((((h.setCell hB _).setCell hB _).setCell hB _).setCell hB _).setCell hB _
/-- Noughts made. -/
theorem made_segs (n : Nat) : madeCells #[Value.int .u64 0, .float .f64 0, .float .f64 0, .int .i64 0, .int .i64 0] n = madeCells #[Value.int .u64 0, .float .f64 0, .float .f64 0, .int .i64 0, .int .i64 0] n := rfl
theorem sflat_zeros : ∀ n, sflat (List.replicate n zS) = (List.range (n * 5)).map fun k => #[Value.int .u64 0, .float .f64 0, .float .f64 0, .int .i64 0, .int .i64 0][k % 5]!
  | 0 => rfl
  | n + 1 => by
    rw [List.replicate_succ', sflat_append, sflat_zeros n, show (n + 1) * 5 = n * 5 + 5 by omega, List.range_add, List.map_append]
    congr 1
    have e : List.range 5 = [0, 1, 2, 3, 4] := rfl
    rw [e]
    simp only [List.map_cons, List.map_nil, sflat, List.flatMap_cons, List.flatMap_nil, List.append_nil, scells, zS]
    have m0 : (n * 5 + 0) % 5 = 0 := by omega
    have m1 : (n * 5 + 1) % 5 = 1 := by omega
    have m2 : (n * 5 + 2) % 5 = 2 := by omega
    have m3 : (n * 5 + 3) % 5 = 3 := by omega
    have m4 : (n * 5 + 4) % 5 = 4 := by omega
    rw [m0, m1, m2, m3, m4]
    rfl
theorem made_zS (n : Nat) : madeCells #[Value.int .u64 0, .float .f64 0, .float .f64 0, .int .i64 0, .int .i64 0] (n * 5) = (sflat (List.replicate n zS)).toArray := by
  rw [sflat_zeros]
  unfold madeCells
  apply Array.ext'
  simp
end Go.Proofs.Ytnccgpdniigekaa
/-
  levels.over comes to the level over keys.
-/
namespace Go.Proofs.Ytnccgpdniigekaa
open Go.RowKit
set_option linter.unusedVariables false
set_option linter.unusedSimpArgs false
attribute [local go_sem high] run_store_float

theorem infoS : (Try.prog.info? 33).map (fun i => (i.zero, i.size, i.bytes)) = some (some (.agg #[.int .u64 0, .float .f64 0, .float .f64 0, .int .i64 0, .int .i64 0]), 5, 40) := by kernel_rfl
/-- make of rows whose elements have several cells. -/
theorem wpList_make_rows {P : Program} (w : World) {ops : Array Oper} {rest : List Oper} {o : Oper} {a : Act} {Q : Exit → Act → World → Prop}
    (hg : o.guard = none) (l c : Operand) (t : TypeId) (hop : o.op = Op.makeSlice t l c)
    (e : TypeId) (i : TypeInfo) (z : Value) (ht : P.underlying t = some (.slice e)) (hi : P.info? e = some i) (hz : i.zero = some z) (size : Nat) (hsize : i.size = size)
    (kl kc : IntKind) (n : Nat) (hl : a.eval l = .int kl (n : Int)) (hc : a.eval c = .int kc (n : Int)) (hbytes : i.bytes * n ≤ 281474976710656) (h63 : n ≤ 9223372036854775807)
    (hK : wpList P ops Q rest (a.put o.dst (.slice (some ⟨w.heap.size, 0, none⟩) n n)) (w.alloc (.cells (madeCells z.cells (n * size)) e))) :
    wpList P ops Q (o :: rest) a w := by
  refine wpList_plain hg fun K hK' => ?_
  have hb' : (i.bytes : Int) * (n : Int) ≤ 281474976710656 := by
    have h : ((i.bytes * n : Nat) : Int) ≤ 281474976710656 := by omega
    rwa [Int.natCast_mul] at h
  have hrun := run_make (P := P) w t e i z ht hi hz kl kc n n (by omega) (Int.le_refl _) hb' (by omega)
  simp only [Int.toNat_natCast, hsize] at hrun
  unfold Oper.wp
  simp [execOp, hop, hl, hc, hrun, Result.andThen]
  exact hK' _ _ hK
theorem ends_allN (eps : Int) (A : Option Addr) (c : Nat) (L : List Int) (hL : U64s L) (hn : L.length ≤ 17592186044416) (w : World) (hA : ArgU w A L) :
    Calls Try.prog 66 #[.slice A L.length c, .int .i64 eps] w fun e w' => ∃ A' c', e = .returned (.tuple #[.slice A' (ansL eps L).length c', .int .i64 (ansC eps L)]) ∧ ArgN w' A' (ansL eps L) ∧ Below w.heap.size w w' := by
  refine (ends_all eps A c L hL hn w hA).mono ?_
  rintro e w' ⟨v, rfl, hi, _, hb⟩
  have hl := ansL_len eps L
  obtain ⟨A', c', h | h⟩ := hi.arg
  · obtain ⟨rfl, ha, _⟩ := h
    exact ⟨A', c', rfl, ha, hb⟩
  · omega
theorem ArgN.getD {w : World} {A : Option Addr} {l : List Nat} (h : ArgN w A l) {i : Nat} (hi : i < l.length) : ∃ b o, A = some ⟨b, o, none⟩ ∧ b < w.heap.size ∧ w.cell? ⟨b, o + i, none⟩ = some (.int .i64 (l.getD i 0 : Int)) := by
  obtain ⟨b, o, hA, hb, hc⟩ := h.at hi
  refine ⟨b, o, hA, hb, ?_⟩
  rw [List.getD_eq_getElem?_getD, List.getElem?_eq_getElem hi]; exact hc

set_option maxHeartbeats 4000000 in
set_option maxRecDepth 100000 in
theorem over_any (A : Option Addr) (c : Nat) (K : List Int) (eps : Int) (hK : U64s K) (hn : K.length ≤ 4294967296) (hc : K.length ≤ c) (w : World) (hA : ArgU w A K) :
    Calls Try.prog 41 #[.slice A K.length c, .int .i64 eps] w fun e w' => ∃ g, e = .returned (.slice (some ⟨g, 0, none⟩) (overL K eps).length (overL K eps).length) ∧ w.heap.size ≤ g ∧ Blk w' g 33 (sflat (overL K eps)).toArray ∧ Below w.heap.size w w' := by
  obtain ⟨i0, hi, hz0, hz1, hz2⟩ := info_parts infoS
  have ED := ends_allN eps A c K hK (by omega) w hA
  have HE := Lib.hid (ansL_ok eps K)
  have HA := Lib.hid hA
  have HK := Lib.hid hK
  have HC := Lib.hid hc
  have hov : overL K eps = segsN K eps (ansL eps K) (ansL eps K).length := rfl
  have hln : (overL K eps).length = (ansL eps K).length := overL_len K eps
  obtain ⟨E, hE⟩ : ∃ E, E = ansL eps K := ⟨_, rfl⟩
  rw [← hE] at ED HE hov hln
  rw [hln, hov]
  have hEl := HE.out.len
  clear hA hK hc hov hln hE
  go_enter Try.func41, Try.ntmps41
  go_wp2_with fail
  refine ED.mono ?_
  rintro e w1 ⟨AE, cE, rfl, hN, b1⟩
  have H1 := Lib.hid (And.intro hN b1)
  clear ED hN b1
  have HB : Hid (Blk (w1.alloc (.cells (madeCells #[Value.int .u64 0, .float .f64 0, .float .f64 0, .int .i64 0, .int .i64 0] (E.length * 5)) 33)) w1.heap.size 33 (sflat (ovC K eps E 0)).toArray ∧ Below w1.heap.size w1 (w1.alloc (.cells (madeCells #[Value.int .u64 0, .float .f64 0, .float .f64 0, .int .i64 0, .int .i64 0] (E.length * 5)) 33))) := Lib.hid ⟨by rw [made_zS, ovC_zero]; exact Blk.new _ _ _, below_new (Below.refl _ _) _⟩
  have hg : w.heap.size ≤ w1.heap.size := H1.out.2.size
  go_wp2_with (refine wpList_make_rows _ rfl (.tmp 18) (.tmp 18) 30 rfl 33 i0 _ Try.underlying30 hi hz0 5 hz1 .i64 .i64 E.length (by rfl) (by rfl) (by rw [hz2]; omega) (by omega) ?_; simp only [Value.cells])
  go_loopw [8, 22] (fun y x wr => ∃ i : Nat, i ≤ E.length ∧ x = .int .i64 i ∧ y = .int .i64 (begN E i : Nat) ∧ Hid (Blk wr w1.heap.size 33 (sflat (ovC K eps E i)).toArray ∧ Below w1.heap.size w1 wr)) (fun _ x _ => E.length - (intOf x).toNat)
  case atStart => exact ⟨0, Nat.zero_le _, rfl, rfl, HB⟩
  case round =>
    obtain ⟨i, hi', rfl, rfl, H⟩ := hrel
    clear HB hi hz0 hz1 hz2
    by_cases hlt : i < E.length
    · have i0' : (0 : Int) ≤ (i : Int) := by omega
      have i1 : (i : Int) < (E.length : Int) := by omega
      obtain ⟨eb, eo, rfl, heb, hce⟩ := (H1.out.1.below H.out.2).getD hlt
      obtain ⟨p1, p2⟩ := HE.out.at_ i hlt
      obtain ⟨b, o, rfl, hb, hkc⟩ := HA.out (by omega)
      have hcc := HC.out
      have SS := stretch_len (K := K) (p := begN E i) p2
      have OF := fun w' hA' => ofS_any (some ⟨b, o + begN E i, none⟩) (c - begN E i) (stretch K (begN E i) (E.getD i 0)) eps (begN E i) (by unfold i64ok; omega) (HK.out.stretch _ _) (by omega) w' hA'
      have AR : ∀ w', Below w.heap.size w w' → ArgU w' (some ⟨b, o + begN E i, none⟩) (stretch K (begN E i) (E.getD i 0)) := fun w' k => (HA.out.below k).stretch _ _
      have sg : (ofS (stretch K (begN E i) (E.getD i 0)) eps (begN E i)).1 = segI K eps E i := rfl
      rw [SS] at OF
      have OF' : ∀ w', Below w.heap.size w w' → Calls Try.prog 67 #[.slice (some ⟨b, o + begN E i, none⟩) (E.getD i 0 - begN E i) (c - begN E i), .int .i64 eps, .int .i64 (begN E i : Nat)] w' fun e w2 => e = .returned (.tuple #[(segI K eps E i).v, .int .i64 (ofS (stretch K (begN E i) (E.getD i 0)) eps (begN E i)).2]) ∧ Below w'.heap.size w' w2 := fun w' k => OF w' (AR w' k)
      have HO := Lib.hid OF'
      have LN := ovC_len K eps E hi'
      have ST := Lib.hid (ovC_set K eps E hlt)
      have BN := begN_succ E i
      generalize (ofS (stretch K (begN E i) (E.getD i 0)) eps (begN E i)).2 = er at HO
      obtain ⟨⟨first, sl, ic, fr, up⟩, hs⟩ : ∃ s, segI K eps E i = s := ⟨_, rfl⟩
      rw [hs] at HO ST
      unfold Sg.v at HO
      simp only [] at HO
      obtain ⟨p, hp⟩ : ∃ p, begN E i = p := ⟨_, rfl⟩
      obtain ⟨t, ht⟩ : ∃ t, E.getD i 0 = t := ⟨_, rfl⟩
      rw [ht] at hce p1 p2 HO BN
      rw [hp] at p1 HO ⊢
      clear OF OF' AR SS sg hs hp ht hkc
      have q0 : (0 : Int) ≤ (p : Int) := by omega
      have q1 : (p : Int) ≤ (t : Int) := by omega
      have q2 : (t : Int) ≤ (c : Int) := by omega
      have q3 : p < c := by omega
      have q4 : (p : Int) < (c : Int) := by omega
      have q5 : t ≤ c := by omega
      have q6 : p ≤ t := by omega
      go_wp2_with fail
      refine (HO.out _ (below_next H1.out.2 H.out.2)).mono ?_
      rintro e w3 ⟨rfl, b3⟩
      have H3 := Lib.hid (And.intro (H.out.1.below b3) (below_next H.out.2 b3))
      have hil : i < (ovC K eps E i).length := by rw [LN]; exact hlt
      obtain ⟨d0, d1, d2, d3, d4⟩ := seg_at_blk H3.out.1 hil
      have f0 := H3.out.1.free (i * 5); have f1 := H3.out.1.free (i * 5 + 1); have f2 := H3.out.1.free (i * 5 + 2); have f3 := H3.out.1.free (i * 5 + 3); have f4 := H3.out.1.free (i * 5 + 4)
      have K5 := Lib.hid (H3.out.1.seg5 hil ⟨first, sl, ic, fr, up⟩)
      have L5 := Lib.hid (below_seg5 (k0 := i * 5) (k1 := i * 5 + 1) (k2 := i * 5 + 2) (k3 := i * 5 + 3) (k4 := i * 5 + 4) (u := .int .u64 first) (v := .float .f64 sl) (x := .float .f64 ic) (y := .int .i64 fr) (z := .int .i64 up) H3.out.2 (Nat.le_refl _))
      clear HO b3 H
      go_wp2_with fail
      go_roundw
      case rel => exact ⟨i + 1, by omega, by go_num, by rw [BN], Lib.hid ⟨by have := K5.out; rwa [ST.out] at this, L5.out⟩⟩
      case measure => simp [intOf]; omega
    · obtain rfl : i = E.length := by omega
      have i1 : ¬ (E.length : Int) < (E.length : Int) := by omega
      go_wp2_with fail
      go_ret
      exact ⟨w1.heap.size, rfl, hg, by have := H.out.1; rwa [ovC_all] at this, below_next H1.out.2 H.out.2⟩
end Go.Proofs.Ytnccgpdniigekaa
/-
  levels.Build comes to the levels over keys.
-/
namespace Go.Proofs.Ytnccgpdniigekaa
open Go.RowKit
set_option linter.unusedVariables false
set_option linter.unusedSimpArgs false

/-- The levels over keys. -/
noncomputable def buildL (eps : Int) (K : List Int) : List (List Sg) :=
  if K = [] then [] else if h : (overL K eps).length < K.length ∧ (overL K eps).length ≠ 1 then overL K eps :: buildL eps (firstsL (overL K eps)) else [overL K eps]
termination_by K.length
decreasing_by rw [firsts_len]; exact h.1
theorem buildL_nil (eps : Int) : buildL eps [] = [] := by rw [buildL, if_pos rfl]
theorem buildL_one {eps : Int} {K : List Int} (h0 : K ≠ []) (h : (overL K eps).length = 1) : buildL eps K = [overL K eps] := by
  rw [buildL, if_neg h0, dif_neg (by intro hh; exact hh.2 h)]
theorem over_less {eps : Int} {K : List Int} (h0 : K ≠ []) (h : (overL K eps).length ≠ 1) : (overL K eps).length < K.length := by
  have hl : 0 < K.length := List.length_pos_iff.2 h0
  rw [overL_len] at h ⊢
  by_cases hg : Good eps K
  · have e : ansL eps K = endsL (eps - 1) K := by unfold ansL; rw [if_pos hg]
    rw [e] at h ⊢
    obtain ⟨outs, h1, _, _, h4⟩ := few (e := eps - 1) (by have := hg.1; omega) hg.2.2 hl
    rw [h1] at h ⊢
    simp only [List.length_append, List.length_cons, List.length_nil] at h ⊢
    have h5 : (outs.length : Int) * 3 ≤ outs.length * (2 * (eps - 1) + 1) := Int.mul_le_mul_of_nonneg_left (by have := hg.1; omega) (by omega)
    omega
  · have e : ansL eps K = [] := by unfold ansL; rw [if_neg hg]
    rw [e] at h ⊢; exact hl
theorem buildL_more {eps : Int} {K : List Int} (h0 : K ≠ []) (h : (overL K eps).length ≠ 1) : buildL eps K = overL K eps :: buildL eps (firstsL (overL K eps)) := by
  rw [buildL, if_neg h0, dif_pos ⟨over_less h0 h, h⟩]
theorem ofS_first {L : List Int} (hL : U64s L) (eps fr : Int) : u64ok (ofS L eps fr).1.first := by
  have h0 : u64ok 0 := by unfold u64ok; omega
  unfold ofS
  split
  · exact h0
  · split
    · exact h0
    · rcases Nat.eq_zero_or_pos L.length with h | h
      · have : L = [] := List.eq_nil_of_length_eq_zero h
        subst this; exact h0
      · exact hL.getD h
theorem overL_first {K : List Int} (hK : U64s K) (eps : Int) : U64s (firstsL (overL K eps)) := by
  intro x hx
  unfold firstsL overL segsN at hx
  obtain ⟨s, hs, rfl⟩ := List.mem_map.1 hx
  obtain ⟨i, _, rfl⟩ := List.mem_map.1 hs
  exact ofS_first (hK.stretch _ _) eps _

/-- Slices of rows, each in a block of its own. -/
def svs (gs : List Nat) (ll : List (List Sg)) : List Value := List.zipWith (fun g l => Value.slice (some ⟨g, 0, none⟩) l.length l.length) gs ll
theorem svs_len {gs : List Nat} {ll : List (List Sg)} (h : gs.length = ll.length) : (svs gs ll).length = ll.length := by simp [svs, h]
theorem svs_snoc {gs : List Nat} {ll : List (List Sg)} (h : gs.length = ll.length) (g : Nat) (l : List Sg) : svs (gs ++ [g]) (ll ++ [l]) = svs gs ll ++ [.slice (some ⟨g, 0, none⟩) l.length l.length] := by
  unfold svs; rw [List.zipWith_append h]; rfl
theorem svs_get {gs : List Nat} {ll : List (List Sg)} (h : gs.length = ll.length) {i : Nat} (hi : i < ll.length) : (svs gs ll)[i]? = some (.slice (some ⟨gs.getD i 0, 0, none⟩) (ll.getD i []).length (ll.getD i []).length) := by
  unfold svs
  rw [List.getElem?_zipWith, List.getElem?_eq_getElem (by omega), List.getElem?_eq_getElem hi]
  simp [List.getD_eq_getElem?_getD, List.getElem?_eq_getElem hi, List.getElem?_eq_getElem (show i < gs.length by omega)]
/-- Levels under way: a row of slices that the call owns, each slice's row, all made since w0. -/
structure LLm (w0 : World) (v : Value) (gs : List Nat) (ll : List (List Sg)) (w : World) : Prop where
  len : gs.length = ll.length
  row : w.ownsRow 0 30 1 v ll.length (svs gs ll)
  own : ∀ g, v.ownBlock = some g → w0.heap.size ≤ g
  inn : ∀ i, i < ll.length → Blk w (gs.getD i 0) 33 (sflat (ll.getD i [])).toArray ∧ w0.heap.size ≤ gs.getD i 0
  dis : gs.Pairwise (· < ·)
  bel : Below w0.heap.size w0 w
section
variable {w0 w w' : World} {v : Value} {gs : List Nat} {ll : List (List Sg)}
theorem LLm.nil (w0 : World) : LLm w0 (.slice none 0 0) [] [] w0 := ⟨rfl, World.ownsRow_nil _ _ _ _, fun g hg => by simp [Value.ownBlock] at hg, fun i hi => absurd hi (by simp), List.Pairwise.nil, Below.refl _ _⟩
theorem LLm.below (h : LLm w0 v gs ll w) (k : Below w.heap.size w w') : LLm w0 v gs ll w' :=
  ⟨h.len, own_chg h.row (Chg.of_below k) (fun _ _ h => h), h.own, fun i hi => ⟨(h.inn i hi).1.below k, (h.inn i hi).2⟩, h.dis, below_next h.bel k⟩
theorem LLm.snoc (h : LLm w0 v gs ll w) {n : Nat} (hn : ll.length = n) {g1 : Nat} {l : List Sg} (hb : Blk w g1 33 (sflat l).toArray) (hg1 : w0.heap.size ≤ g1) (hlast : ∀ g ∈ gs, g < g1)
    {o : Obj} {w1 : World} {g cap : Nat} (hown : w1.ownsRow 0 30 1 (.slice (some ⟨g, 0, none⟩) (n + 1) cap) (n + 1) (svs gs ll ++ [.slice (some ⟨g1, 0, none⟩) l.length l.length]))
    (hgr : (w.alloc o).grownBy w1 v.ownBlock) (hat : v.ownBlock = some g ∨ g = w.heap.size + 1) : LLm w0 (.slice (some ⟨g, 0, none⟩) (n + 1) cap) (gs ++ [g1]) (ll ++ [l]) w1 := by
  subst hn
  have C : Chg (fun k => v.ownBlock = some k) w w1 := ((Chg.refl _ w).alloc o).grown hgr (fun k hk _ => hk)
  have hne : ∀ {g' : Nat} {cs : Array Value}, Blk w g' 33 cs → ¬ v.ownBlock = some g' := fun hB => own_ne_blk h.row hB (by decide)
  refine ⟨by simp [h.len], by rw [svs_snoc h.len]; simpa using hown, fun g' hg' => ?_, fun i hi => ?_, ?_, below_chg h.bel C (fun k _ hk => h.own k hk) h.bel.size⟩
  · simp only [Value.ownBlock, Option.some.injEq] at hg'
    subst hg'
    rcases hat with m | m
    · exact h.own _ m
    · have := h.bel.size; omega
  · rcases Nat.lt_or_ge i ll.length with hlt | hge
    · have e1 : (gs ++ [g1]).getD i 0 = gs.getD i 0 := by rw [List.getD_eq_getElem?_getD, List.getD_eq_getElem?_getD, List.getElem?_append_left (by rw [h.len]; exact hlt)]
      have e2 : (ll ++ [l]).getD i [] = ll.getD i [] := by rw [List.getD_eq_getElem?_getD, List.getD_eq_getElem?_getD, List.getElem?_append_left hlt]
      rw [e1, e2]
      exact ⟨(h.inn i hlt).1.chg C (hne (h.inn i hlt).1), (h.inn i hlt).2⟩
    · have hi' : i = ll.length := by simp at hi; omega
      subst hi'
      have e1 : (gs ++ [g1]).getD ll.length 0 = g1 := by rw [← h.len]; simp
      have e2 : (ll ++ [l]).getD ll.length [] = l := by simp
      rw [e1, e2]
      exact ⟨hb.chg C (hne hb), hg1⟩
  · rw [List.pairwise_append]
    exact ⟨h.dis, List.pairwise_singleton _ _, fun a ha b hb' => by simp at hb'; subst hb'; exact hlast a ha⟩
theorem LLm.lt (h : LLm w0 v gs ll w) : ∀ g ∈ gs, g < w.heap.size := by
  intro g hg
  obtain ⟨i, hi, rfl⟩ := List.mem_iff_getElem.1 hg
  have := (h.inn i (by rw [← h.len]; exact hi)).1.lt
  rwa [List.getD_eq_getElem?_getD, List.getElem?_eq_getElem hi] at this
end
/-- The slice reads as these levels. -/
def ArgSS (w : World) (A : Option Addr) (ll : List (List Sg)) : Prop := 0 < ll.length → ∃ b o, A = some ⟨b, o, none⟩ ∧ b < w.heap.size ∧ ∀ i, i < ll.length → ∃ A' c', w.cell? ⟨b, o + i, none⟩ = some (.slice A' (ll.getD i []).length c') ∧ ArgS w A' (ll.getD i [])
theorem ArgSS.below {w w' : World} {A : Option Addr} {ll : List (List Sg)} (h : ArgSS w A ll) (k : Below w.heap.size w w') : ArgSS w' A ll := fun hn => by
  obtain ⟨b, o, hA, hb, hc⟩ := h hn
  refine ⟨b, o, hA, Nat.lt_of_lt_of_le hb k.size, fun i hi => ?_⟩
  obtain ⟨A', c', h1, h2⟩ := hc i hi
  exact ⟨A', c', (k.cell (p := ⟨b, _, none⟩) hb).trans h1, h2.below k⟩
theorem LLm.arg {w0 w : World} {v : Value} {gs : List Nat} {ll : List (List Sg)} (h : LLm w0 v gs ll w) : ∃ A c, v = .slice A ll.length c ∧ ArgSS w A ll := by
  rcases h.row.2 with ⟨hv, h0⟩ | ⟨g, cap, cur, hv, hr⟩
  · exact ⟨none, 0, by rw [hv, h0], fun h => by omega⟩
  · have hlt : g < w.heap.size := Blk.lt (t := 30) hr.2.1
    refine ⟨_, _, hv, fun _ => ⟨g, 0, rfl, hlt, fun i hi => ?_⟩⟩
    have hc := World.ownsRow.cells h.row (g := g) (by rw [hv]; rfl) i _ (svs_get h.len hi)
    rw [Addr.add_mid] at hc
    exact ⟨_, _, hc, args_blk (h.inn i hi).1⟩

theorem build_bad (eps : Int) (h : eps < 2 ∨ 64 < eps) (A : Option Addr) (n c : Nat) (w : World) : Calls Try.prog 17 #[.slice A n c, .int .i64 eps] w fun e w' => e = .returned (.tuple #[.slice none 0 0, .int .i64 1]) ∧ w = w' := by
  by_cases h1 : eps < 2
  · clear h
    go_enter Try.func17, Try.ntmps17
    go_wp2_with fail
    simp [bodyPost, results, Try.results17, go_sem]
  · have h2 : 64 < eps := by omega
    clear h
    go_enter Try.func17, Try.ntmps17
    go_wp2_with fail
    simp [bodyPost, results, Try.results17, go_sem]
theorem build_unsorted (eps : Int) (h1 : 2 ≤ eps) (h2 : eps ≤ 64) (A : Option Addr) (c : Nat) (K : List Int) (hn : K.length ≤ 17592186044416) (hu : ¬ K.Pairwise (· < ·)) (w : World) (hA : ArgU w A K) :
    Calls Try.prog 17 #[.slice A K.length c, .int .i64 eps] w fun e w' => e = .returned (.tuple #[.slice none 0 0, .int .i64 80]) ∧ Below w.heap.size w w' := by
  have R := Rising_any A c K hn w hA
  rw [decide_eq_false hu] at R
  have a1 : ¬ eps < 2 := by omega
  have a2 : ¬ 64 < eps := by omega
  clear hA hu h1 h2
  go_enter Try.func17, Try.ntmps17
  go_wp2_with fail
  refine R.mono ?_
  rintro e w1 ⟨rfl, b1⟩
  have B1 := Lib.hid b1
  clear b1
  go_wp2_with fail
  simp [bodyPost, results, Try.results17, go_sem]
  exact B1.out

def lenOf : Value → Nat | .slice _ n _ => n | _ => 0
theorem infoR : (Try.prog.info? 30).map (fun i => (i.zero, i.size, i.bytes)) = some (some (.slice none 0 0), 1, 24) := by kernel_rfl
/-- What the loop keeps. -/
structure BI (w : World) (eps : Int) (K : List Int) (A : Option Addr) (c : Nat) (K' : List Int) (v : Value) (gs : List Nat) (ll : List (List Sg)) (wr : World) : Prop where
  arg : ArgU wr A K'
  ok : U64s K'
  cap : K'.length ≤ c
  lls : LLm w v gs ll wr
  eq : buildL eps K = ll ++ buildL eps K'
  cnt : ll.length + K'.length ≤ K.length

set_option maxHeartbeats 4000000 in
set_option maxRecDepth 100000 in
theorem build_good (eps : Int) (h1 : 2 ≤ eps) (h2 : eps ≤ 64) (A : Option Addr) (c : Nat) (K : List Int) (hK : U64s K) (hn : K.length ≤ 4294967296) (hc : K.length ≤ c) (hu : K.Pairwise (· < ·)) (w : World) (hA : ArgU w A K) :
    Calls Try.prog 17 #[.slice A K.length c, .int .i64 eps] w fun e w' => ∃ v gs, e = .returned (.tuple #[v, .int .i64 0]) ∧ LLm w v gs (buildL eps K) w' := by
  obtain ⟨ir, hir, hr0, hr1, hr2⟩ := info_parts infoR
  have R := Rising_any A c K (by omega) w hA
  rw [decide_eq_true hu] at R
  have a1 : ¬ eps < 2 := by omega
  have a2 : ¬ 64 < eps := by omega
  have I0 : Hid (∀ w', Below w.heap.size w w' → BI w eps K A c K (.slice none 0 0) [] [] w') := Lib.hid fun w' k => ⟨hA.below k, hK, hc, (LLm.nil w).below k, rfl, by simp⟩
  clear hA hu h1 h2 hK hc
  go_enter Try.func17, Try.ntmps17
  go_wp2_with fail
  refine R.mono ?_
  rintro e w1 ⟨rfl, b1⟩
  have I1 := Lib.hid (I0.out _ b1)
  clear b1 I0
  go_wp2_with fail
  go_loopw [0, 6] (fun x y wr => ∃ (A' : Option Addr) (c' : Nat) (K' : List Int) (gs : List Nat) (ll : List (List Sg)), x = .slice A' K'.length c' ∧ Hid (BI w eps K A' c' K' y gs ll wr)) (fun x _ _ => lenOf x)
  case atStart => exact ⟨A, c, K, [], [], rfl, I1⟩
  case round =>
    obtain ⟨A', c', K', gs, ll, rfl, I⟩ := hrel
    clear I1
    by_cases h0 : K' = []
    · have E : Hid (buildL eps K = ll) := Lib.hid (by have := I.out.eq; rw [h0, buildL_nil, List.append_nil] at this; exact this)
      have hz : K'.length = 0 := by rw [h0]; rfl
      have hz2 : ¬ (0 : Int) < (K'.length : Int) := by omega
      clear h0
      go_wp2_with fail
      simp [bodyPost, results, Try.results17, go_sem]
      exact ⟨gs, by rw [E.out]; exact I.out.lls⟩
    · have hpos : 0 < K'.length := List.length_pos_iff.2 h0
      have hz2 : (0 : Int) < (K'.length : Int) := by omega
      have hcnt := I.out.cnt
      have OV := over_any A' c' K' eps I.out.ok (by omega) I.out.cap _ I.out.arg
      have HL := Lib.hid (fun h => over_less (eps := eps) h0 h)
      have H1 := Lib.hid (fun h => buildL_one (eps := eps) h0 h)
      have H2 := Lib.hid (fun h => buildL_more (eps := eps) h0 h)
      have HF := Lib.hid (overL_first I.out.ok eps)
      obtain ⟨lv, hlv⟩ : ∃ lv, overL K' eps = lv := ⟨_, rfl⟩
      rw [hlv] at OV HL H1 H2 HF
      clear h0 hlv
      go_wp2_with fail
      refine OV.mono ?_
      rintro e w2 ⟨g, rfl, hg, B2, b2⟩
      have I2 := Lib.hid (And.intro (I.out.lls.below b2) (And.intro B2 (And.intro (fun g' hg' => Nat.lt_of_lt_of_le (I.out.lls.lt g' hg') hg) (Nat.le_trans I.out.lls.bel.size hg))))
      have HO1 : Hid ((w2.alloc (.cells #[.slice (some ⟨g, 0, none⟩) lv.length lv.length] 30)).ownsRow 0 30 1 u6 ll.length (svs gs ll)) := Lib.hid (own_chg I2.out.1.row (Chg.of_below (below_new (Below.refl _ _) _)) (fun _ _ h => h))
      have HFO : Hid (∀ u ∈ [Value.slice (some ⟨g, 0, none⟩) lv.length lv.length], u.oneCell' = true) := Lib.hid (by intro u hu; simp at hu; subst hu; rfl)
      clear OV b2 B2 hg
      by_cases hone : lv.length = 1
      · have hz3 : ((lv.length : Int) == 1) = true := by rw [hone]; rfl
        have E : Hid (buildL eps K = ll ++ [lv]) := Lib.hid (by have := I.out.eq; rw [H1.out hone] at this; exact this)
        clear hone
        go_wp2_with (at_builtin; go_loud (refine wpList_append_lies _ rfl (.tmp 25) (.tmp 27) 25 (by rfl) 0 30 ir _ 1 24 Try.underlying25 hir hr0 hr1 hr2 rfl (by omega) u6 ll.length (svs gs ll) (by rfl) HO1.out ⟨w2.heap.size, 0, none⟩ 1 1 [.slice (some ⟨g, 0, none⟩) lv.length lv.length] (by rfl) (by rfl) (World.news_of_block (Blk.new w2 30 #[.slice (some ⟨g, 0, none⟩) lv.length lv.length])) HFO.out (by omega) (by unfold maxLen; omega) (by omega) (Nat.zero_le _) (w2.heap.size + 1) (by simp) ?_; intro gn capn wn hown hgr hat hltn; have HG2 := Lib.hid (I2.out.1.snoc rfl I2.out.2.1 I2.out.2.2.2 I2.out.2.2.1 hown hgr hat); clear hown hgr hat hltn))
        simp [bodyPost, results, Try.results17, go_sem]
        exact ⟨_, by rw [E.out]; exact HG2.out⟩
      · have hz3 : ((lv.length : Int) == 1) = false := by simp; omega
        have E : Hid (buildL eps K = (ll ++ [lv]) ++ buildL eps (firstsL lv)) := Lib.hid (by have := I.out.eq; rw [H2.out hone] at this; rw [this]; simp)
        have hless := HL.out hone
        clear hone
        go_wp2_with (at_builtin; go_loud (refine wpList_append_lies _ rfl (.tmp 25) (.tmp 27) 25 (by rfl) 0 30 ir _ 1 24 Try.underlying25 hir hr0 hr1 hr2 rfl (by omega) u6 ll.length (svs gs ll) (by rfl) HO1.out ⟨w2.heap.size, 0, none⟩ 1 1 [.slice (some ⟨g, 0, none⟩) lv.length lv.length] (by rfl) (by rfl) (World.news_of_block (Blk.new w2 30 #[.slice (some ⟨g, 0, none⟩) lv.length lv.length])) HFO.out (by omega) (by unfold maxLen; omega) (by omega) (Nat.zero_le _) (w2.heap.size + 1) (by simp) ?_; intro gn capn wn hown hgr hat hltn; have HG2 := Lib.hid (I2.out.1.snoc rfl I2.out.2.1 I2.out.2.2.2 I2.out.2.2.1 hown hgr hat); clear hown hgr hat hltn))
        have FT := firsts_any (some ⟨g, 0, none⟩) lv.length lv (by omega) wn (by
          have h := (HG2.out.inn ll.length (by simp)).1
          have e1 : (gs ++ [g]).getD ll.length 0 = g := by rw [← I.out.lls.len]; simp
          have e2 : (ll ++ [lv]).getD ll.length [] = lv := by simp
          rw [e1, e2] at h
          exact args_blk h)
        refine FT.mono ?_
        rintro e w5 ⟨g5, rfl, hg5, B5, b5⟩
        have I5 : Hid (BI w eps K (some ⟨g5, 0, none⟩) lv.length (firstsL lv) (.slice (some ⟨gn, 0, none⟩) (ll.length + 1) capn) (gs ++ [g]) (ll ++ [lv]) w5) := Lib.hid ⟨ArgU.of_blk B5, HF.out, by rw [firsts_len]; exact Nat.le_refl _, HG2.out.below b5, E.out, by rw [firsts_len]; simp; omega⟩
        have hfl : Hid ((firstsL lv).length = lv.length) := Lib.hid (firsts_len lv)
        clear FT B5 b5
        go_wp2_with fail
        go_roundw
        case rel => exact ⟨some ⟨g5, 0, none⟩, lv.length, firstsL lv, _, _, by rw [hfl.out], I5⟩
        case measure => simp only [lenOf]; omega
end Go.Proofs.Ytnccgpdniigekaa
