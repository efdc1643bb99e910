/-
  Segments in memory; the keys of segments (levels.firsts).
-/
import Derived.Test.YtnccgpdniigekaaQMdOf
import Derived.Test.YtnccgpdniigekaaQG7
import Derived.Test.YtnccgpdniigekaaQG22
import Derived.Test.YtnccgpdniigekaaQG21
import Derived.Test.YtnccgpdniigekaaQG20
namespace Go.Proofs.Ytnccgpdniigekaa
open Go.RowKit
set_option linter.unusedVariables false
set_option linter.unusedSimpArgs false
attribute [local go_sem high] run_store_float

def zS : Sg := ⟨0, 0, 0, 0, 0⟩
/-- A segment's cells. -/
def scells (s : Sg) : List Value := [.int .u64 s.first, .float .f64 s.sl, .float .f64 s.ic, .int .i64 s.fr, .int .i64 s.up]
def sflat (l : List Sg) : List Value := l.flatMap scells
theorem length_scells (s : Sg) : (scells s).length = 5 := rfl
theorem sflat_nil : sflat [] = [] := rfl
theorem sflat_cons (e : Sg) (es : List Sg) : sflat (e :: es) = scells e ++ sflat es := rfl
theorem sflat_append (a b : List Sg) : sflat (a ++ b) = sflat a ++ sflat b := by simp [sflat]
theorem length_sflat : ∀ es : List Sg, (sflat es).length = es.length * 5
  | [] => rfl
  | e :: es => by rw [sflat_cons, List.length_append, length_sflat es, length_scells, List.length_cons]; omega
theorem sflat_get : ∀ (es : List Sg) (i j : Nat) (h : i < es.length), j < 5 → (sflat es)[i * 5 + j]? = (scells es[i])[j]?
  | e :: es, 0, j, _, hj => by rw [sflat_cons, List.getElem?_append_left (by rw [length_scells]; omega)]; simp
  | e :: es, i + 1, j, h, hj => by
    rw [sflat_cons, List.getElem?_append_right (by rw [length_scells]; omega), length_scells]
    have := sflat_get es i j (by simpa using h) hj
    rw [show (i + 1) * 5 + j - 5 = i * 5 + j from by omega, this]
    rfl
theorem sflat_one (es : List Sg) : ∀ u ∈ sflat es, u.oneCell' = true := by
  intro u hu
  obtain ⟨e, _, he⟩ := List.mem_flatMap.1 hu
  simp [scells] at he
  rcases he with rfl | rfl | rfl | rfl | rfl <;> rfl

/-- A segment lies there. -/
def SegAt (w : World) (b o : Nat) (s : Sg) : Prop :=
  w.cell? ⟨b, o, none⟩ = some (.int .u64 s.first) ∧ w.cell? ⟨b, o + 1, none⟩ = some (.float .f64 s.sl) ∧ w.cell? ⟨b, o + 2, none⟩ = some (.float .f64 s.ic) ∧ w.cell? ⟨b, o + 3, none⟩ = some (.int .i64 s.fr) ∧ w.cell? ⟨b, o + 4, none⟩ = some (.int .i64 s.up)
theorem SegAt.below {w w' : World} {b o : Nat} {s : Sg} (h : SegAt w b o s) {B : Nat} (k : Below B w w') (hb : b < B) : SegAt w' b o s :=
  ⟨(k.cell (p := ⟨b, _, none⟩) hb).trans h.1, (k.cell (p := ⟨b, _, none⟩) hb).trans h.2.1, (k.cell (p := ⟨b, _, none⟩) hb).trans h.2.2.1, (k.cell (p := ⟨b, _, none⟩) hb).trans h.2.2.2.1, (k.cell (p := ⟨b, _, none⟩) hb).trans h.2.2.2.2⟩
/-- The slice reads as these segments; they lie in a block that was there. -/
def ArgS (w : World) (A : Option Addr) (l : List Sg) : Prop := 0 < l.length → ∃ b o, A = some ⟨b, o, none⟩ ∧ b < w.heap.size ∧ ∀ i, i < l.length → SegAt w b (o + i * 5) (l.getD i zS)
theorem ArgS.below {w w' : World} {A : Option Addr} {l : List Sg} (h : ArgS w A l) (k : Below w.heap.size w w') : ArgS w' A l := fun hn => by
  obtain ⟨b, o, hA, hb, hc⟩ := h hn
  exact ⟨b, o, hA, Nat.lt_of_lt_of_le hb k.size, fun i hi => (hc i hi).below k hb⟩
theorem ArgS.nil (w : World) (A : Option Addr) : ArgS w A [] := fun h => absurd h (by simp)
/-- Segments that a block holds from its head on. -/
theorem seg_at_blk {w : World} {g : Nat} {l : List Sg} (h : Blk w g 33 (sflat l).toArray) {i : Nat} (hi : i < l.length) : SegAt w g (i * 5) (l.getD i zS) := by
  have e : l.getD i zS = l[i] := by rw [List.getD_eq_getElem?_getD, List.getElem?_eq_getElem hi]; rfl
  rw [e]
  have key : ∀ j, j < 5 → w.cell? ⟨g, i * 5 + j, none⟩ = (scells l[i])[j]? := by
    intro j hj
    rw [h.cell, ← sflat_get l i j hi hj]; simp
  exact ⟨by simpa [scells] using key 0 (by omega), by simpa [scells] using key 1 (by omega), by simpa [scells] using key 2 (by omega), by simpa [scells] using key 3 (by omega), by simpa [scells] using key 4 (by omega)⟩
theorem args_blk {w : World} {g : Nat} {l : List Sg} (h : Blk w g 33 (sflat l).toArray) : ArgS w (some ⟨g, 0, none⟩) l := fun _ =>
  ⟨g, 0, rfl, h.lt, fun i hi => by rw [Nat.zero_add]; exact seg_at_blk h hi⟩

/-- The keys of segments. -/
def firstsL (l : List Sg) : List Int := l.map (·.first)
theorem firsts_len (l : List Sg) : (firstsL l).length = l.length := by simp [firstsL]
theorem firsts_getD (l : List Sg) {i : Nat} (hi : i < l.length) : (firstsL l).getD i 0 = (l.getD i zS).first := by
  rw [List.getD_eq_getElem?_getD, List.getD_eq_getElem?_getD, firstsL, List.getElem?_map, List.getElem?_eq_getElem hi]; rfl
/-- So far filled. -/
def fsC (l : List Sg) (i : Nat) : List Value := ((firstsL l).take i).map (Value.int .u64) ++ List.replicate (l.length - i) (.int .u64 0)
theorem fsC_zero (l : List Sg) : fsC l 0 = List.replicate l.length (.int .u64 0) := by simp [fsC]
theorem fsC_all (l : List Sg) : fsC l l.length = (firstsL l).map (Value.int .u64) := by
  unfold fsC
  rw [List.take_of_length_le (by rw [firsts_len]; exact Nat.le_refl _)]; simp
theorem fsC_set (l : List Sg) {i : Nat} (hi : i < l.length) : (fsC l i).toArray.setIfInBounds i (.int .u64 (l.getD i zS).first) = (fsC l (i + 1)).toArray := by
  have hl : i < (firstsL l).length := by rw [firsts_len]; exact hi
  have ht : (((firstsL l).take i).map (Value.int .u64)).length = i := by rw [List.length_map, List.length_take, firsts_len]; omega
  rw [List.setIfInBounds_toArray]
  unfold fsC
  rw [List.set_append_right _ _ (by omega), ht, Nat.sub_self, List.take_succ_eq_append_getElem hl, List.map_append, List.append_assoc]
  congr 2
  have e : l.length - i = (l.length - (i + 1)) + 1 := by omega
  rw [e, List.replicate_succ]
  have := firsts_getD l hi
  rw [List.getD_eq_getElem?_getD, List.getElem?_eq_getElem hl] at this
  simp only [Option.getD_some] at this
  simp [this]
theorem fsC_get (l : List Sg) {i : Nat} (hi : i < l.length) : (fsC l i)[i]? = some (.int .u64 0) := by
  have ht : (((firstsL l).take i).map (Value.int .u64)).length = i := by rw [List.length_map, List.length_take, firsts_len]; omega
  unfold fsC
  rw [List.getElem?_append_right (by omega), ht, Nat.sub_self, List.getElem?_replicate, if_pos (by omega)]

set_option maxHeartbeats 4000000 in
set_option maxRecDepth 100000 in
theorem firsts_any (A : Option Addr) (c : Nat) (l : List Sg) (hn : l.length ≤ 17592186044416) (w : World) (hA : ArgS w A l) :
    Calls Try.prog 42 #[.slice A l.length c] w fun e w' => ∃ g, e = .returned (.slice (some ⟨g, 0, none⟩) l.length l.length) ∧ w.heap.size ≤ g ∧ Blk w' g 24 ((firstsL l).map (Value.int .u64)).toArray ∧ Below w.heap.size w w' := by
  obtain ⟨i0, hi, hz0, hz1, hz2⟩ := info_parts infoU
  have HA := Lib.hid hA
  clear hA
  have HB : Hid (Blk (w.alloc (.cells (madeCells #[Value.int .u64 0] l.length) 24)) w.heap.size 24 (fsC l 0).toArray ∧ Below w.heap.size w (w.alloc (.cells (madeCells #[Value.int .u64 0] l.length) 24))) := Lib.hid ⟨by rw [made_list, fsC_zero]; exact Blk.new _ _ _, below_new (Below.refl _ _) _⟩
  go_enter Try.func42, Try.ntmps42
  go_wp2_with (refine wpList_make_row _ rfl (.tmp 7) (.tmp 7) 22 rfl 24 i0 _ Try.underlying22 hi hz0 hz1 rfl .i64 .i64 l.length (by rfl) (by rfl) (by rw [hz2]; omega) (by omega) ?_)
  go_loopw [11] (fun x wr => ∃ i : Nat, i ≤ l.length ∧ x = .int .i64 i ∧ Hid (Blk wr w.heap.size 24 (fsC l i).toArray ∧ Below w.heap.size w wr)) (fun x _ => l.length - (intOf x).toNat)
  case atStart => exact ⟨0, Nat.zero_le _, rfl, HB⟩
  case round =>
    obtain ⟨i, hi', rfl, H⟩ := hrel
    clear HB hi hz0 hz1 hz2
    by_cases hlt : i < l.length
    · have i0' : (0 : Int) ≤ (i : Int) := by omega
      have i1 : (i : Int) < (l.length : Int) := by omega
      obtain ⟨b, o, rfl, hb, hc⟩ := HA.out (by omega)
      obtain ⟨s0, s1, s2, s3, s4⟩ := (hc i hlt).below H.out.2 hb
      have ST := Lib.hid (fsC_set l hlt)
      have SG := Lib.hid (fsC_get l hlt)
      obtain ⟨⟨first, sl, ic, fr, up⟩, hs⟩ : ∃ s, l.getD i zS = s := ⟨_, rfl⟩
      rw [hs] at s0 s1 s2 s3 s4 ST
      simp only [] at s0 s1 s2 s3 s4 ST
      clear hc hs
      have K := Lib.hid (And.intro (H.out.1.alloc (.cells #[.int .u64 first, .float .f64 sl, .float .f64 ic, .int .i64 fr, .int .i64 up] 33)) (below_new H.out.2 (.cells #[.int .u64 first, .float .f64 sl, .float .f64 ic, .int .i64 fr, .int .i64 up] 33)))
      have x0 : (wr.alloc (.cells #[.int .u64 first, .float .f64 sl, .float .f64 ic, .int .i64 fr, .int .i64 up] 33)).cell? ⟨w.heap.size, i, none⟩ = some (.int .u64 0) := by rw [K.out.1.cell]; simpa using SG.out
      have f0 := K.out.1.free i
      have K2 := Lib.hid (And.intro ((K.out.1.set i (.int .u64 first)).congr ST.out) (K.out.2.setCell (p := ⟨w.heap.size, i, none⟩) (Nat.le_refl _) (.int .u64 first)))
      go_wp2_with fail
      go_roundw
      case rel => exact ⟨i + 1, by omega, by go_num, K2⟩
      case measure => simp [intOf]; omega
    · obtain rfl : i = l.length := by omega
      have i1 : ¬ (l.length : Int) < (l.length : Int) := by omega
      go_wp2_with fail
      go_ret
      exact ⟨w.heap.size, rfl, Nat.le_refl _, by have := H.out.1; rwa [fsC_all] at this, H.out.2⟩
end Go.Proofs.Ytnccgpdniigekaa
/-
  Plain: the stretches of keys, the level over keys.
-/
namespace Go.Proofs.Ytnccgpdniigekaa
open Go.RowKit
set_option linter.unusedVariables false
set_option linter.unusedSimpArgs false

/-- Where the i-th stretch begins. -/
def begN (E : List Nat) (i : Nat) : Nat := prevN 0 E i
theorem begN_succ (E : List Nat) (i : Nat) : begN E (i + 1) = E.getD i 0 := by simp [begN, prevN]
/-- Keys from p on, to t. -/
def stretch (K : List Int) (p t : Nat) : List Int := (K.drop p).take (t - p)
theorem stretch_len {K : List Int} {p t : Nat} (h : t ≤ K.length) : (stretch K p t).length = t - p := by
  unfold stretch; rw [List.length_take, List.length_drop]; omega
theorem stretch_getD {K : List Int} {p t i : Nat} (hi : i < t - p) : (stretch K p t).getD i 0 = K.getD (p + i) 0 := by
  unfold stretch
  rw [List.getD_eq_getElem?_getD, List.getD_eq_getElem?_getD, List.getElem?_take, if_pos hi, List.getElem?_drop]
theorem stretch_up {K : List Int} (h : K.Pairwise (· < ·)) (p t : Nat) : (stretch K p t).Pairwise (· < ·) := by
  unfold stretch
  exact (h.sublist (List.drop_sublist p K)).sublist (List.take_sublist _ _)
theorem U64s.stretch {K : List Int} (h : U64s K) (p t : Nat) : U64s (stretch K p t) := fun x hx => by
  unfold Go.Proofs.Ytnccgpdniigekaa.stretch at hx
  exact h x (List.mem_of_mem_drop (List.mem_of_mem_take hx))
theorem ArgU.stretch {w : World} {b o : Nat} {K : List Int} (h : ArgU w (some ⟨b, o, none⟩) K) (p t : Nat) : ArgU w (some ⟨b, o + p, none⟩) (stretch K p t) := fun hn => by
  have hl : (Go.Proofs.Ytnccgpdniigekaa.stretch K p t).length ≤ K.length - p := by unfold Go.Proofs.Ytnccgpdniigekaa.stretch; rw [List.length_take, List.length_drop]; omega
  obtain ⟨b', o', hA, hb, hc⟩ := h (by omega)
  injection hA with hA
  injection hA with e1 e2
  subst e1 e2
  refine ⟨b, o + p, rfl, hb, fun i hi => ?_⟩
  have hit : i < t - p := by
    have : (Go.Proofs.Ytnccgpdniigekaa.stretch K p t).length ≤ t - p := by unfold Go.Proofs.Ytnccgpdniigekaa.stretch; rw [List.length_take]; omega
    omega
  have e : (Go.Proofs.Ytnccgpdniigekaa.stretch K p t)[i] = K[p + i]'(by omega) := by
    have h1 : (Go.Proofs.Ytnccgpdniigekaa.stretch K p t)[i]? = K[p + i]? := by unfold Go.Proofs.Ytnccgpdniigekaa.stretch; rw [List.getElem?_take, if_pos hit, List.getElem?_drop]
    rw [List.getElem?_eq_getElem hi, List.getElem?_eq_getElem (by omega)] at h1
    exact Option.some.inj h1
  rw [e, Nat.add_assoc]
  exact hc (p + i) (by omega)

/-- The segment of the i-th stretch. -/
noncomputable def segI (K : List Int) (eps : Int) (E : List Nat) (i : Nat) : Sg := (ofS (stretch K (begN E i) (E.getD i 0)) eps (begN E i)).1
/-- The first so many segments. -/
noncomputable def segsN (K : List Int) (eps : Int) (E : List Nat) (n : Nat) : List Sg := (List.range n).map (segI K eps E)
/-- The level over keys. -/
noncomputable def overL (K : List Int) (eps : Int) : List Sg := segsN K eps (ansL eps K) (ansL eps K).length
theorem segsN_len (K : List Int) (eps : Int) (E : List Nat) (n : Nat) : (segsN K eps E n).length = n := by simp [segsN]
theorem segsN_succ (K : List Int) (eps : Int) (E : List Nat) (n : Nat) : segsN K eps E (n + 1) = segsN K eps E n ++ [segI K eps E n] := by simp [segsN, List.range_succ]
theorem segsN_getD {K : List Int} {eps : Int} {E : List Nat} {n i : Nat} (h : i < n) : (segsN K eps E n).getD i zS = segI K eps E i := by
  rw [List.getD_eq_getElem?_getD, segsN, List.getElem?_map, List.getElem?_range h]; rfl
theorem overL_len (K : List Int) (eps : Int) : (overL K eps).length = (ansL eps K).length := segsN_len ..

/-- Where the stretches lie. -/
structure EndsOk (E : List Nat) (n : Nat) : Prop where
  at_ : ∀ i, i < E.length → begN E i < E.getD i 0 ∧ E.getD i 0 ≤ n
  len : E.length ≤ n
theorem endsL_ok {e : Int} (he : 0 ≤ e) {K : List Int} (hu : K.Pairwise (· < ·)) (h0 : 0 < K.length) : EndsOk (endsL e K) K.length := by
  obtain ⟨outs, h1, h2, h3, h4⟩ := few he hu h0
  have hs : Spc 1 ((0 : Nat) : Int) (outs ++ [K.length]) := by
    have key : ∀ {l : List Nat} {p : Int}, Spc (2 * e + 1) p l → Spc 1 p l := by
      intro l
      induction l with
      | nil => intro p _; trivial
      | cons a r ih => intro p h; exact ⟨by have := h.1; omega, ih h.2⟩
    exact (key h2).snoc (p := 0) (by omega)
  rw [h1]
  have hup : ∀ i (h : i < (outs ++ [K.length]).length), (outs ++ [K.length])[i] ≤ K.length := by
    have key : ∀ d i, i + d + 1 = (outs ++ [K.length]).length → ∀ (h : i < (outs ++ [K.length]).length), (outs ++ [K.length])[i] ≤ K.length := by
      intro d
      induction d with
      | zero =>
        intro i hi h
        have : i = outs.length := by simp at hi; omega
        subst this
        simp
      | succ d ih =>
        intro i hi h
        have h5 := ih (i + 1) (by omega) (by omega)
        have h6 := Spc.at (p := 0) hs (i + 1) (by omega)
        simp only [prevN, Nat.add_eq_zero_iff, Nat.one_ne_zero, and_false, if_false, Nat.add_sub_cancel] at h6
        rw [List.getD_eq_getElem?_getD, List.getElem?_eq_getElem h] at h6
        simp only [Option.getD_some] at h6
        omega
    intro i h
    exact key ((outs ++ [K.length]).length - 1 - i) i (by omega) h
  refine ⟨fun i hi => ?_, ?_⟩
  · have h6 := Spc.at (p := 0) hs i hi
    have e1 : (outs ++ [K.length]).getD i 0 = (outs ++ [K.length])[i] := by rw [List.getD_eq_getElem?_getD, List.getElem?_eq_getElem hi]; rfl
    rw [e1]
    refine ⟨?_, hup i hi⟩
    unfold begN; omega
  · rw [← h1]; exact endsL_len he K
theorem ansL_ok (eps : Int) (K : List Int) : EndsOk (ansL eps K) K.length := by
  by_cases hg : Good eps K
  · have e : ansL eps K = endsL (eps - 1) K := by unfold ansL; rw [if_pos hg]
    rw [e]
    by_cases h0 : 0 < K.length
    · exact endsL_ok (by have := hg.1; omega) hg.2.2 h0
    · have : endsL (eps - 1) K = [] := by unfold endsL; rw [if_pos (by omega)]
      rw [this]
      exact ⟨fun i hi => absurd hi (by simp), by simp⟩
  · have e : ansL eps K = [] := by unfold ansL; rw [if_neg hg]
    rw [e]
    exact ⟨fun i hi => absurd hi (by simp), by simp⟩

end Go.Proofs.Ytnccgpdniigekaa
/-
  levels.over comes to the level over keys.
-/
namespace Go.Proofs.Ytnccgpdniigekaa
open Go.RowKit
set_option linter.unusedVariables false
set_option linter.unusedSimpArgs false
attribute [local go_sem high] run_store_float

theorem infoS : (Try.prog.info? 33).map (fun i => (i.zero, i.size, i.bytes)) = some (some (.agg #[.int .u64 0, .float .f64 0, .float .f64 0, .int .i64 0, .int .i64 0]), 5, 40) := by kernel_rfl
theorem ArgN.getD {w : World} {A : Option Addr} {l : List Nat} (h : ArgN w A l) {i : Nat} (hi : i < l.length) : ∃ b o, A = some ⟨b, o, none⟩ ∧ b < w.heap.size ∧ w.cell? ⟨b, o + i, none⟩ = some (.int .i64 (l.getD i 0 : Int)) := by
  obtain ⟨b, o, hA, hb, hc⟩ := h.at hi
  refine ⟨b, o, hA, hb, ?_⟩
  rw [List.getD_eq_getElem?_getD, List.getElem?_eq_getElem hi]; exact hc

end Go.Proofs.Ytnccgpdniigekaa
/-
  levels.Build comes to the levels over keys.
-/
namespace Go.Proofs.Ytnccgpdniigekaa
open Go.RowKit
set_option linter.unusedVariables false
set_option linter.unusedSimpArgs false

/-- The levels over keys. -/
noncomputable def buildL (eps : Int) (K : List Int) : List (List Sg) :=
  if K = [] then [] else if h : (overL K eps).length < K.length ∧ (overL K eps).length ≠ 1 then overL K eps :: buildL eps (firstsL (overL K eps)) else [overL K eps]
termination_by K.length
decreasing_by rw [firsts_len]; exact h.1
theorem buildL_nil (eps : Int) : buildL eps [] = [] := by rw [buildL, if_pos rfl]
theorem buildL_one {eps : Int} {K : List Int} (h0 : K ≠ []) (h : (overL K eps).length = 1) : buildL eps K = [overL K eps] := by
  rw [buildL, if_neg h0, dif_neg (by intro hh; exact hh.2 h)]
theorem over_less {eps : Int} {K : List Int} (h0 : K ≠ []) (h : (overL K eps).length ≠ 1) : (overL K eps).length < K.length := by
  have hl : 0 < K.length := List.length_pos_iff.2 h0
  rw [overL_len] at h ⊢
  by_cases hg : Good eps K
  · have e : ansL eps K = endsL (eps - 1) K := by unfold ansL; rw [if_pos hg]
    rw [e] at h ⊢
    obtain ⟨outs, h1, _, _, h4⟩ := few (e := eps - 1) (by have := hg.1; omega) hg.2.2 hl
    rw [h1] at h ⊢
    simp only [List.length_append, List.length_cons, List.length_nil] at h ⊢
    have h5 : (outs.length : Int) * 3 ≤ outs.length * (2 * (eps - 1) + 1) := Int.mul_le_mul_of_nonneg_left (by have := hg.1; omega) (by omega)
    omega
  · have e : ansL eps K = [] := by unfold ansL; rw [if_neg hg]
    rw [e] at h ⊢; exact hl
theorem buildL_more {eps : Int} {K : List Int} (h0 : K ≠ []) (h : (overL K eps).length ≠ 1) : buildL eps K = overL K eps :: buildL eps (firstsL (overL K eps)) := by
  rw [buildL, if_neg h0, dif_pos ⟨over_less h0 h, h⟩]
theorem ofS_first {L : List Int} (hL : U64s L) (eps fr : Int) : u64ok (ofS L eps fr).1.first := by
  have h0 : u64ok 0 := by unfold u64ok; omega
  unfold ofS
  split
  · exact h0
  · split
    · exact h0
    · rcases Nat.eq_zero_or_pos L.length with h | h
      · have : L = [] := List.eq_nil_of_length_eq_zero h
        subst this; exact h0
      · exact hL.getD h
theorem overL_first {K : List Int} (hK : U64s K) (eps : Int) : U64s (firstsL (overL K eps)) := by
  intro x hx
  unfold firstsL overL segsN at hx
  obtain ⟨s, hs, rfl⟩ := List.mem_map.1 hx
  obtain ⟨i, _, rfl⟩ := List.mem_map.1 hs
  exact ofS_first (hK.stretch _ _) eps _

/-- Slices of rows, each in a block of its own. -/
def svs (gs : List Nat) (ll : List (List Sg)) : List Value := List.zipWith (fun g l => Value.slice (some ⟨g, 0, none⟩) l.length l.length) gs ll
theorem svs_snoc {gs : List Nat} {ll : List (List Sg)} (h : gs.length = ll.length) (g : Nat) (l : List Sg) : svs (gs ++ [g]) (ll ++ [l]) = svs gs ll ++ [.slice (some ⟨g, 0, none⟩) l.length l.length] := by
  unfold svs; rw [List.zipWith_append h]; rfl
theorem svs_get {gs : List Nat} {ll : List (List Sg)} (h : gs.length = ll.length) {i : Nat} (hi : i < ll.length) : (svs gs ll)[i]? = some (.slice (some ⟨gs.getD i 0, 0, none⟩) (ll.getD i []).length (ll.getD i []).length) := by
  unfold svs
  rw [List.getElem?_zipWith, List.getElem?_eq_getElem (by omega), List.getElem?_eq_getElem hi]
  simp [List.getD_eq_getElem?_getD, List.getElem?_eq_getElem hi, List.getElem?_eq_getElem (show i < gs.length by omega)]
/-- Levels under way: a row of slices that the call owns, each slice's row, all made since w0. -/
structure LLm (w0 : World) (v : Value) (gs : List Nat) (ll : List (List Sg)) (w : World) : Prop where
  len : gs.length = ll.length
  row : w.ownsRow 0 30 1 v ll.length (svs gs ll)
  own : ∀ g, v.ownBlock = some g → w0.heap.size ≤ g
  inn : ∀ i, i < ll.length → Blk w (gs.getD i 0) 33 (sflat (ll.getD i [])).toArray ∧ w0.heap.size ≤ gs.getD i 0
  dis : gs.Pairwise (· < ·)
  bel : Below w0.heap.size w0 w
section
variable {w0 w w' : World} {v : Value} {gs : List Nat} {ll : List (List Sg)}
theorem LLm.nil (w0 : World) : LLm w0 (.slice none 0 0) [] [] w0 := ⟨rfl, World.ownsRow_nil _ _ _ _, fun g hg => by simp [Value.ownBlock] at hg, fun i hi => absurd hi (by simp), List.Pairwise.nil, Below.refl _ _⟩
theorem LLm.below (h : LLm w0 v gs ll w) (k : Below w.heap.size w w') : LLm w0 v gs ll w' :=
  ⟨h.len, own_chg h.row (Chg.of_below k) (fun _ _ h => h), h.own, fun i hi => ⟨(h.inn i hi).1.below k, (h.inn i hi).2⟩, h.dis, below_next h.bel k⟩
theorem LLm.snoc (h : LLm w0 v gs ll w) {n : Nat} (hn : ll.length = n) {g1 : Nat} {l : List Sg} (hb : Blk w g1 33 (sflat l).toArray) (hg1 : w0.heap.size ≤ g1) (hlast : ∀ g ∈ gs, g < g1)
    {o : Obj} {w1 : World} {g cap : Nat} (hown : w1.ownsRow 0 30 1 (.slice (some ⟨g, 0, none⟩) (n + 1) cap) (n + 1) (svs gs ll ++ [.slice (some ⟨g1, 0, none⟩) l.length l.length]))
    (hgr : (w.alloc o).grownBy w1 v.ownBlock) (hat : v.ownBlock = some g ∨ g = w.heap.size + 1) : LLm w0 (.slice (some ⟨g, 0, none⟩) (n + 1) cap) (gs ++ [g1]) (ll ++ [l]) w1 := by
  subst hn
  have C : Chg (fun k => v.ownBlock = some k) w w1 := ((Chg.refl _ w).alloc o).grown hgr (fun k hk _ => hk)
  have hne : ∀ {g' : Nat} {cs : Array Value}, Blk w g' 33 cs → ¬ v.ownBlock = some g' := fun hB => own_ne_blk h.row hB (by decide)
  refine ⟨by simp [h.len], by rw [svs_snoc h.len]; simpa using hown, fun g' hg' => ?_, fun i hi => ?_, ?_, below_chg h.bel C (fun k _ hk => h.own k hk) h.bel.size⟩
  · simp only [Value.ownBlock, Option.some.injEq] at hg'
    subst hg'
    rcases hat with m | m
    · exact h.own _ m
    · have := h.bel.size; omega
  · rcases Nat.lt_or_ge i ll.length with hlt | hge
    · have e1 : (gs ++ [g1]).getD i 0 = gs.getD i 0 := by rw [List.getD_eq_getElem?_getD, List.getD_eq_getElem?_getD, List.getElem?_append_left (by rw [h.len]; exact hlt)]
      have e2 : (ll ++ [l]).getD i [] = ll.getD i [] := by rw [List.getD_eq_getElem?_getD, List.getD_eq_getElem?_getD, List.getElem?_append_left hlt]
      rw [e1, e2]
      exact ⟨(h.inn i hlt).1.chg C (hne (h.inn i hlt).1), (h.inn i hlt).2⟩
    · have hi' : i = ll.length := by simp at hi; omega
      subst hi'
      have e1 : (gs ++ [g1]).getD ll.length 0 = g1 := by rw [← h.len]; simp
      have e2 : (ll ++ [l]).getD ll.length [] = l := by simp
      rw [e1, e2]
      exact ⟨hb.chg C (hne hb), hg1⟩
  · rw [List.pairwise_append]
    exact ⟨h.dis, List.pairwise_singleton _ _, fun a ha b hb' => by simp at hb'; subst hb'; exact hlast a ha⟩
theorem LLm.lt (h : LLm w0 v gs ll w) : ∀ g ∈ gs, g < w.heap.size := by
  intro g hg
  obtain ⟨i, hi, rfl⟩ := List.mem_iff_getElem.1 hg
  have := (h.inn i (by rw [← h.len]; exact hi)).1.lt
  rwa [List.getD_eq_getElem?_getD, List.getElem?_eq_getElem hi] at this
end
/-- The slice reads as these levels. -/
def ArgSS (w : World) (A : Option Addr) (ll : List (List Sg)) : Prop := 0 < ll.length → ∃ b o, A = some ⟨b, o, none⟩ ∧ b < w.heap.size ∧ ∀ i, i < ll.length → ∃ A' c', w.cell? ⟨b, o + i, none⟩ = some (.slice A' (ll.getD i []).length c') ∧ ArgS w A' (ll.getD i [])
theorem ArgSS.below {w w' : World} {A : Option Addr} {ll : List (List Sg)} (h : ArgSS w A ll) (k : Below w.heap.size w w') : ArgSS w' A ll := fun hn => by
  obtain ⟨b, o, hA, hb, hc⟩ := h hn
  refine ⟨b, o, hA, Nat.lt_of_lt_of_le hb k.size, fun i hi => ?_⟩
  obtain ⟨A', c', h1, h2⟩ := hc i hi
  exact ⟨A', c', (k.cell (p := ⟨b, _, none⟩) hb).trans h1, h2.below k⟩
theorem LLm.arg {w0 w : World} {v : Value} {gs : List Nat} {ll : List (List Sg)} (h : LLm w0 v gs ll w) : ∃ A c, v = .slice A ll.length c ∧ ArgSS w A ll := by
  rcases h.row.2 with ⟨hv, h0⟩ | ⟨g, cap, cur, hv, hr⟩
  · exact ⟨none, 0, by rw [hv, h0], fun h => by omega⟩
  · have hlt : g < w.heap.size := Blk.lt (t := 30) hr.2.1
    refine ⟨_, _, hv, fun _ => ⟨g, 0, rfl, hlt, fun i hi => ?_⟩⟩
    have hc := World.ownsRow.cells h.row (g := g) (by rw [hv]; rfl) i _ (svs_get h.len hi)
    rw [Addr.add_mid] at hc
    exact ⟨_, _, hc, args_blk (h.inn i hi).1⟩

def lenOf : Value → Nat | .slice _ n _ => n | _ => 0
theorem infoR : (Try.prog.info? 30).map (fun i => (i.zero, i.size, i.bytes)) = some (some (.slice none 0 0), 1, 24) := by kernel_rfl
end Go.Proofs.Ytnccgpdniigekaa
