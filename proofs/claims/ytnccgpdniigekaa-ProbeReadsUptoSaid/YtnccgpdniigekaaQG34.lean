/-
  Keys of one's own, with a mark behind.
-/
import Derived.Test.YtnccgpdniigekaaQG22
import Derived.Test.YtnccgpdniigekaaQG21
import Derived.Test.YtnccgpdniigekaaQG28
import Derived.Test.YtnccgpdniigekaaQG27
import Derived.Test.YtnccgpdniigekaaQG33
namespace Go.Proofs.Ytnccgpdniigekaa
open Go.RowKit
set_option linter.unusedVariables false
set_option linter.unusedSimpArgs false

theorem Us.cap {w0 w : World} {l : List Int} {g n cap : Nat} (h : Us w0 (.slice (some ⟨g, 0, none⟩) n cap) l w) : l.length ≤ cap := by
  rcases h.1.2 with ⟨hv, _⟩ | ⟨g', cap', cur, hv, _, _, hn, _⟩
  · cases hv
  · injection hv with h1 h2 h3
    omega
theorem ArgU.left {w : World} {A : Option Addr} {l m : List Int} (h : ArgU w A (l ++ m)) : ArgU w A l := by
  intro hn
  obtain ⟨b, o, hA, hb, hc⟩ := h (by rw [List.length_append]; omega)
  exact ⟨b, o, hA, hb, fun i hi => by have := hc i (by rw [List.length_append]; omega); rwa [List.getElem_append_left hi] at this⟩
theorem Us.first {w0 w w1 : World} {v v' : Value} {L : List Int} (h : Us w0 v [] w) (hown : w1.ownsRow 0 24 1 v' (0 + L.length) ([] ++ L.map (Value.int .u64))) (hgr : w.grownBy w1 v.ownBlock) (hat : v'.ownBlock = v.ownBlock ∨ v'.ownBlock = some w.heap.size) : Us w0 v' L w1 := by
  have C : Chg (fun k => v.ownBlock = some k) w w1 := (Chg.refl _ w).grown hgr (fun k hk _ => hk)
  refine ⟨by simpa using hown, fun g hg => ?_, below_chg h.2.2 C (fun k _ hk => h.2.1 k hk) h.2.2.size⟩
  rcases hat with m | m
  · exact h.2.1 g (m ▸ hg)
  · rw [m] at hg
    simp only [Option.some.injEq] at hg
    have := h.2.2.size; omega
theorem Us.second {w0 w : World} {v : Value} {L : List Int} (h : Us w0 v L w) (o : Obj) : (w.alloc o).ownsRow 0 24 1 v L.length (L.map (Value.int .u64)) := own_chg h.1 ((Chg.refl (fun _ => False) w).alloc o) (fun _ _ h => h)
/-- Keys with a mark behind them, all made since w. -/
structure OwnK (w : World) (g : Nat) (L : List Int) (w' : World) : Prop where
  arg : ArgU w' (some ⟨g, 0, none⟩) (L ++ [77])
  bel : Below w.heap.size w w'
theorem OwnK.below {w w' wx : World} {g : Nat} {L : List Int} (h : OwnK w g L w') (k : Below w'.heap.size w' wx) : OwnK w g L wx := ⟨h.arg.below k, below_next h.bel k⟩
theorem OwnK.mark {w w' : World} {g : Nat} {L : List Int} (h : OwnK w g L w') : w'.cell? ⟨g, L.length, none⟩ = some (.int .u64 77) := by
  obtain ⟨b, o, h1, h2, h3⟩ := h.arg (by simp)
  injection h1 with h1
  injection h1 with h1 h4
  subst h1 h4
  have := h3 L.length (by simp)
  simpa using this
theorem OwnK.at_ {w w' : World} {g : Nat} {L : List Int} (h : OwnK w g L w') {i : Nat} (hi : i < L.length) : w'.cell? ⟨g, i, none⟩ = some (.int .u64 L[i]) := by
  obtain ⟨b, o, h1, h2, h3⟩ := h.arg.left (by omega)
  injection h1 with h1
  injection h1 with h1 h4
  subst h1 h4
  have := h3 i hi
  rwa [Nat.zero_add] at this
theorem reads_u {w : World} {A : Option Addr} {L : List Int} {c : Nat} (h : ArgU w A L) : Reads w w.heap.size 1 A L.length (L.map (Value.int .u64)) := ⟨by simp, fun h0 => by
  obtain ⟨b, o, hA, hb, hc⟩ := h h0
  refine ⟨_, hA, hb, fun j u hu => ?_⟩
  rw [List.getElem?_map] at hu
  by_cases hj : j < L.length
  · rw [List.getElem?_eq_getElem hj] at hu
    simp only [Option.map_some, Option.some.injEq] at hu
    subst hu
    rw [Addr.add_mid]; exact hc j hj
  · rw [List.getElem?_eq_none (by omega)] at hu; simp at hu⟩
theorem Us.new {w w1 : World} (h : Below w.heap.size w w1) : Us w (.slice (some ⟨w1.heap.size, 0, none⟩) 0 0) [] (w1.alloc (.cells #[] 24)) :=
  ⟨⟨rfl, .inr ⟨w1.heap.size, 0, #[], rfl, Nat.zero_le _, Blk.new _ _ _, Nat.le_refl _, Nat.zero_le _, rfl, rfl⟩⟩, fun g hg => by simp [Value.ownBlock] at hg; have := h.size; omega, below_next h (below_new (Below.refl _ _) _)⟩
theorem ones_u (L : List Int) : ∀ u ∈ L.map (Value.int .u64), u.oneCell' = true := by intro u hu; obtain ⟨k, _, rfl⟩ := List.mem_map.1 hu; rfl
end Go.Proofs.Ytnccgpdniigekaa
/-
  Levels in memory as the reference builds them: rows with room behind.
-/
namespace Go.Proofs.Ytnccgpdniigekaa
open Go.RowKit
set_option linter.unusedVariables false
set_option linter.unusedSimpArgs false
attribute [local go_sem high] run_store_float

theorem own_args {w : World} {base : Nat} {A : Option Addr} {n c : Nat} {l : List Sg} (h : w.ownsRow base 33 5 (.slice A n c) l.length (sflat l)) : ArgS w A l := by
  rcases h.2 with ⟨hv, h0⟩ | ⟨g, cap, cur, hv, hr⟩
  · exact fun hn => by omega
  · injection hv with e1 e2 e3
    subst e1
    have hlt : g < w.heap.size := Blk.lt (t := 33) hr.2.1
    refine fun _ => ⟨g, 0, rfl, hlt, fun i hi => ?_⟩
    have key : ∀ j, j < 5 → w.cell? ⟨g, 0 + (i * 5 + j), none⟩ = (scells (l.getD i zS))[j]? := by
      intro j hj
      have e : l.getD i zS = l[i] := by rw [List.getD_eq_getElem?_getD, List.getElem?_eq_getElem hi]; rfl
      rw [e]
      have hg := sflat_get l i j hi hj
      have hj5 : j < (scells l[i]).length := by rw [length_scells]; exact hj
      rw [List.getElem?_eq_getElem hj5] at hg ⊢
      have := World.ownsRow.cells h (g := g) rfl (i * 5 + j) _ hg
      rwa [Addr.add_mid] at this
    exact ⟨by simpa [scells] using key 0 (by omega), by simpa [scells, Nat.add_assoc] using key 1 (by omega), by simpa [scells, Nat.add_assoc] using key 2 (by omega), by simpa [scells, Nat.add_assoc] using key 3 (by omega), by simpa [scells, Nat.add_assoc] using key 4 (by omega)⟩
theorem own_slice {w : World} {base : Nat} {e : TypeId} {size n : Nat} {v : Value} {xs : List Value} (h : w.ownsRow base e size v n xs) : ∃ A c, v = .slice A n c ∧ n ≤ c := by
  rcases h.2 with ⟨hv, h0⟩ | ⟨g, cap, cur, hv, _, _, hc, _⟩
  · exact ⟨none, 0, by rw [hv, h0], by omega⟩
  · exact ⟨_, _, hv, hc⟩
/-- Segments gathered so far. -/
structure FS (w : World) (v : Value) (L : List Sg) (wr : World) : Prop where
  own : wr.ownsRow 0 33 5 v L.length (sflat L)
  new : ∀ g, v.ownBlock = some g → w.heap.size ≤ g
  bel : Below w.heap.size w wr
theorem FS.start {w w1 : World} (k : Below w.heap.size w w1) : FS w (.slice (some ⟨w1.heap.size, 0, none⟩) 0 0) [] (w1.alloc (.cells #[] 33)) :=
  ⟨⟨rfl, .inr ⟨w1.heap.size, 0, #[], rfl, Nat.zero_le _, Blk.new _ _ _, Nat.le_refl _, Nat.zero_le _, rfl, rfl⟩⟩, fun g hg => by simp [Value.ownBlock] at hg; have := k.size; omega, below_new k _⟩
theorem FS.below {w wr w1 : World} {v : Value} {L : List Sg} (h : FS w v L wr) (k : Below wr.heap.size wr w1) : FS w v L w1 := ⟨own_chg h.own (Chg.of_below k) (fun _ _ h => h), h.new, below_next h.bel k⟩
theorem FS.grown {w wr w1 : World} {v : Value} {L : List Sg} {s : Sg} {o : Obj} {g cap n H : Nat} (h : FS w v L wr) (hn : L.length = n)
    (hown : w1.ownsRow 0 33 5 (.slice (some ⟨g, 0, none⟩) (n + 1) cap) (n + 1) (sflat L ++ scells s))
    (hgr : (wr.alloc o).grownBy w1 v.ownBlock) (hat : v.ownBlock = some g ∨ g = wr.heap.size + 1) : FS w (.slice (some ⟨g, 0, none⟩) (n + 1) cap) (L ++ [s]) w1 := by
  subst hn
  have C : Chg (fun k => v.ownBlock = some k) wr w1 := ((Chg.refl _ wr).alloc o).grown hgr (fun k hk _ => hk)
  refine ⟨?_, fun g' hg' => ?_, below_chg h.bel C (fun k _ hk => h.new k hk) h.bel.size⟩
  · have e : sflat (L ++ [s]) = sflat L ++ scells s := by rw [sflat_append, sflat_cons, sflat_nil, List.append_nil]
    rw [e, List.length_append]; exact hown
  · simp only [Value.ownBlock, Option.some.injEq] at hg'
    subst hg'
    rcases hat with m | m
    · exact h.new _ m
    · have := h.bel.size; omega
/-- Levels, each a row of its own. -/
structure LLr (w0 : World) (v : Value) (vs : List Value) (ll : List (List Sg)) (w : World) : Prop where
  len : vs.length = ll.length
  row : w.ownsRow 0 30 1 v ll.length vs
  own : ∀ g, v.ownBlock = some g → w0.heap.size ≤ g
  inn : ∀ i, i < ll.length → w.ownsRow 0 33 5 (vs.getD i undef) (ll.getD i []).length (sflat (ll.getD i []))
  inw : ∀ i, i < ll.length → ∀ g, (vs.getD i undef).ownBlock = some g → w0.heap.size ≤ g
  bel : Below w0.heap.size w0 w
section
variable {w0 w w' : World} {v : Value} {vs : List Value} {ll : List (List Sg)}
theorem LLr.start {w1 : World} (k : Below w0.heap.size w0 w1) : LLr w0 (.slice (some ⟨w1.heap.size, 0, none⟩) 0 0) [] [] (w1.alloc (.cells #[] 30)) :=
  ⟨rfl, ⟨rfl, .inr ⟨w1.heap.size, 0, #[], rfl, Nat.zero_le _, Blk.new _ _ _, Nat.le_refl _, Nat.zero_le _, rfl, rfl⟩⟩, fun g hg => by simp [Value.ownBlock] at hg; have := k.size; omega, fun i hi => absurd hi (by simp), fun i hi => absurd hi (by simp), below_new k _⟩
theorem LLr.below (h : LLr w0 v vs ll w) (k : Below w.heap.size w w') : LLr w0 v vs ll w' :=
  ⟨h.len, own_chg h.row (Chg.of_below k) (fun _ _ h => h), h.own, fun i hi => own_chg (h.inn i hi) (Chg.of_below k) (fun _ _ h => h), h.inw, below_next h.bel k⟩
theorem own_ne_own {n n' s s' b b' : Nat} {e e' : TypeId} {v v' : Value} {xs xs' : List Value} (h : w.ownsRow b e s v n xs) (h' : w.ownsRow b' e' s' v' n' xs') (hne : e ≠ e') : ∀ g, v'.ownBlock = some g → ¬ v.ownBlock = some g := by
  intro g hg hk
  obtain ⟨cs, hb⟩ := own_blk h' hg
  exact own_ne_blk h hb hne hk
theorem LLr.snoc (h : LLr w0 v vs ll w) {n : Nat} (hn : ll.length = n) {x : Value} {l : List Sg} (hx : w.ownsRow 0 33 5 x l.length (sflat l)) (hxn : ∀ g, x.ownBlock = some g → w0.heap.size ≤ g)
    {o : Obj} {w1 : World} {g cap : Nat} (hown : w1.ownsRow 0 30 1 (.slice (some ⟨g, 0, none⟩) (n + 1) cap) (n + 1) (vs ++ [x]))
    (hgr : (w.alloc o).grownBy w1 v.ownBlock) (hat : v.ownBlock = some g ∨ g = w.heap.size + 1) : LLr w0 (.slice (some ⟨g, 0, none⟩) (n + 1) cap) (vs ++ [x]) (ll ++ [l]) w1 := by
  subst hn
  have C : Chg (fun k => v.ownBlock = some k) w w1 := ((Chg.refl _ w).alloc o).grown hgr (fun k hk _ => hk)
  refine ⟨by simp [h.len], by simpa using hown, fun g' hg' => ?_, fun i hi => ?_, fun i hi => ?_, below_chg h.bel C (fun k _ hk => h.own k hk) h.bel.size⟩
  · simp only [Value.ownBlock, Option.some.injEq] at hg'
    subst hg'
    rcases hat with m | m
    · exact h.own _ m
    · have := h.bel.size; omega
  · rcases Nat.lt_or_ge i ll.length with hlt | hge
    · have e1 : (vs ++ [x]).getD i undef = vs.getD i undef := by rw [List.getD_eq_getElem?_getD, List.getD_eq_getElem?_getD, List.getElem?_append_left (by rw [h.len]; exact hlt)]
      have e2 : (ll ++ [l]).getD i [] = ll.getD i [] := by rw [List.getD_eq_getElem?_getD, List.getD_eq_getElem?_getD, List.getElem?_append_left hlt]
      rw [e1, e2]
      exact own_chg (h.inn i hlt) C (own_ne_own h.row (h.inn i hlt) (by decide))
    · have hi' : i = ll.length := by simp at hi; omega
      subst hi'
      have e1 : (vs ++ [x]).getD ll.length undef = x := by rw [← h.len]; simp
      have e2 : (ll ++ [l]).getD ll.length [] = l := by simp
      rw [e1, e2]
      exact own_chg hx C (own_ne_own h.row hx (by decide))
  · rcases Nat.lt_or_ge i ll.length with hlt | hge
    · rw [List.getD_eq_getElem?_getD, List.getElem?_append_left (by rw [h.len]; exact hlt), ← List.getD_eq_getElem?_getD]
      exact h.inw i hlt
    · have hi' : i = ll.length := by simp at hi; omega
      subst hi'
      have e1 : (vs ++ [x]).getD ll.length undef = x := by rw [← h.len]; simp
      rw [e1]; exact hxn
theorem LLr.arg (h : LLr w0 v vs ll w) : ∃ A c, v = .slice A ll.length c ∧ ArgSS w A ll := by
  rcases h.row.2 with ⟨hv, h0⟩ | ⟨g, cap, cur, hv, hr⟩
  · exact ⟨none, 0, by rw [hv, h0], fun h => by omega⟩
  · have hlt : g < w.heap.size := Blk.lt (t := 30) hr.2.1
    refine ⟨_, _, hv, fun _ => ⟨g, 0, rfl, hlt, fun i hi => ?_⟩⟩
    obtain ⟨A', c', e1, _⟩ := own_slice (h.inn i hi)
    have hr' := h.inn i hi
    rw [e1] at hr'
    have hc := World.ownsRow.cells h.row (g := g) (by rw [hv]; rfl) i (.slice A' (ll.getD i []).length c') (by
      have : i < vs.length := by rw [h.len]; exact hi
      rw [← e1, List.getD_eq_getElem?_getD, List.getElem?_eq_getElem this]; rfl)
    rw [Addr.add_mid] at hc
    exact ⟨_, _, hc, own_args hr'⟩
end
/-- The slice reads as these levels, all of it in blocks from m on. -/
def ArgAb (m : Nat) (w : World) (A : Option Addr) (ll : List (List Sg)) : Prop := 0 < ll.length → ∃ b o, A = some ⟨b, o, none⟩ ∧ m ≤ b ∧ b < w.heap.size ∧ ∀ i, i < ll.length → ∃ A' c', w.cell? ⟨b, o + i, none⟩ = some (.slice A' (ll.getD i []).length c') ∧
  (0 < (ll.getD i []).length → ∃ b' o', A' = some ⟨b', o', none⟩ ∧ m ≤ b' ∧ b' < w.heap.size ∧ ∀ k, k < (ll.getD i []).length → SegAt w b' (o' + k * 5) ((ll.getD i []).getD k zS))
theorem ArgAb.ss {m : Nat} {w : World} {A : Option Addr} {ll : List (List Sg)} (h : ArgAb m w A ll) : ArgSS w A ll := fun hn => by
  obtain ⟨b, o, hA, _, hb, hc⟩ := h hn
  refine ⟨b, o, hA, hb, fun i hi => ?_⟩
  obtain ⟨A', c', h1, h2⟩ := hc i hi
  exact ⟨A', c', h1, fun h0 => by obtain ⟨b', o', e, _, hb', hk⟩ := h2 h0; exact ⟨b', o', e, hb', hk⟩⟩
theorem SegAt.chg {S : Nat → Prop} {w w' : World} {b o : Nat} {s : Sg} (h : SegAt w b o s) (C : Chg S w w') (hb : b < w.heap.size) (hS : ¬ S b) : SegAt w' b o s := by
  have e : ∀ j, w'.cell? ⟨b, j, none⟩ = w.cell? ⟨b, j, none⟩ := fun j => World.cell?_of_block (C.block b hb hS)
  exact ⟨(e _).trans h.1, (e _).trans h.2.1, (e _).trans h.2.2.1, (e _).trans h.2.2.2.1, (e _).trans h.2.2.2.2⟩
theorem ArgAb.chg {m : Nat} {S : Nat → Prop} {w w' : World} {A : Option Addr} {ll : List (List Sg)} (h : ArgAb m w A ll) (C : Chg S w w') (hS : ∀ g, m ≤ g → ¬ S g) : ArgAb m w' A ll := fun hn => by
  obtain ⟨b, o, hA, hm, hb, hc⟩ := h hn
  refine ⟨b, o, hA, hm, Nat.lt_of_lt_of_le hb C.size, fun i hi => ?_⟩
  obtain ⟨A', c', h1, h2⟩ := hc i hi
  refine ⟨A', c', (World.cell?_of_block (C.block b hb (hS b hm))).trans h1, fun h0 => ?_⟩
  obtain ⟨b', o', e, hm', hb', hk⟩ := h2 h0
  exact ⟨b', o', e, hm', Nat.lt_of_lt_of_le hb' C.size, fun k hk' => (hk k hk').chg C hb' (hS b' hm')⟩
theorem LLr.ab {w0 w : World} {v : Value} {vs : List Value} {ll : List (List Sg)} (h : LLr w0 v vs ll w) : ∃ A c, v = .slice A ll.length c ∧ ArgAb w0.heap.size w A ll := by
  rcases h.row.2 with ⟨hv, h0⟩ | ⟨g, cap, cur, hv, hr⟩
  · exact ⟨none, 0, by rw [hv, h0], fun h => by omega⟩
  · have hlt : g < w.heap.size := Blk.lt (t := 30) hr.2.1
    refine ⟨_, _, hv, fun _ => ⟨g, 0, rfl, h.own g (by rw [hv]; rfl), hlt, fun i hi => ?_⟩⟩
    obtain ⟨A', c', e1, _⟩ := own_slice (h.inn i hi)
    have hr' := h.inn i hi
    have hw := h.inw i hi
    rw [e1] at hr' hw
    have hc := World.ownsRow.cells h.row (g := g) (by rw [hv]; rfl) i (.slice A' (ll.getD i []).length c') (by
      have : i < vs.length := by rw [h.len]; exact hi
      rw [← e1, List.getD_eq_getElem?_getD, List.getElem?_eq_getElem this]; rfl)
    rw [Addr.add_mid] at hc
    refine ⟨_, _, hc, fun h0 => ?_⟩
    obtain ⟨b', o', e2, hb', hk⟩ := own_args hr' h0
    subst e2
    exact ⟨b', o', rfl, hw b' rfl, hb', hk⟩
/-- What the reference's loop keeps. -/
structure RI (w : World) (eps : Int) (K : List Int) (A : Option Addr) (c : Nat) (K' : List Int) (n : Nat) (v : Value) (vs : List Value) (ll : List (List Sg)) (wr : World) : Prop where
  arg : ArgU wr A K'
  ok : U64s K'
  up : K'.Pairwise (· < ·)
  cap : K'.length ≤ c
  lls : LLr w v vs ll wr
  eq : buildL eps K = ll ++ (if 0 < n then buildL eps K' else [])
  cnt : ll.length + n ≤ K.length
  num : n = K'.length ∨ n + 1 = K'.length
  len : K'.length ≤ 4294967296
end Go.Proofs.Ytnccgpdniigekaa
/-
  The reference's Build.
-/
namespace Go.Proofs.Ytnccgpdniigekaa
open Go.RowKit
set_option linter.unusedVariables false
set_option linter.unusedSimpArgs false
attribute [local go_sem high] run_store_float

theorem rbuild_bad (eps : Int) (h : eps < 2 ∨ 64 < eps) (A : Option Addr) (n c : Nat) (w : World) : Calls Try.prog 18 #[.slice A n c, .int .i64 eps] w fun e w' => e = .returned (.tuple #[.slice none 0 0, .int .i64 1]) ∧ w = w' := by
  by_cases h1 : eps < 2
  · clear h
    go_enter Try.func18, Try.ntmps18
    go_wp2_with fail
    simp [bodyPost, results, Try.results18, go_sem]
  · have h2 : 64 < eps := by omega
    clear h
    go_enter Try.func18, Try.ntmps18
    go_wp2_with fail
    simp [bodyPost, results, Try.results18, go_sem]
theorem rbuild_unsorted (eps : Int) (h1 : 2 ≤ eps) (h2 : eps ≤ 64) (A : Option Addr) (c : Nat) (K : List Int) (hn : K.length ≤ 17592186044416) (hu : ¬ K.Pairwise (· < ·)) (w : World) (hA : ArgU w A K) :
    Calls Try.prog 18 #[.slice A K.length c, .int .i64 eps] w fun e w' => e = .returned (.tuple #[.slice none 0 0, .int .i64 80]) ∧ Below w.heap.size w w' := by
  have R := ref_Rising A c K hn w hA
  rw [decide_eq_false hu] at R
  have a1 : ¬ eps < 2 := by omega
  have a2 : ¬ 64 < eps := by omega
  clear hA hu h1 h2
  go_enter Try.func18, Try.ntmps18
  go_wp2_with fail
  refine R.mono ?_
  rintro e w1 ⟨rfl, b1⟩
  have B1 := Lib.hid b1
  clear b1
  go_wp2_with fail
  simp [bodyPost, results, Try.results18, go_sem]
  exact B1.out
/-- The next step of the reference's loop. -/
theorem RI.next {w wr w1 : World} {eps : Int} {K : List Int} {A A2 : Option Addr} {c c2 n : Nat} {K' : List Int} {v v2 : Value} {vs vs2 : List Value} {ll : List (List Sg)} (h1 : 2 ≤ eps) (h2 : eps ≤ 64) (h : RI w eps K A c K' n v vs ll wr) (h0 : 0 < n)
    (ha : ArgU w1 A2 (firstsL (overL K' eps))) (hc : (overL K' eps).length ≤ c2) (hL : LLr w v2 vs2 (ll ++ [overL K' eps]) w1) :
    RI w eps K A2 c2 (firstsL (overL K' eps)) ((overL K' eps).length - 1) v2 vs2 (ll ++ [overL K' eps]) w1 ∧ (overL K' eps).length - 1 < n ∧ 1 ≤ (overL K' eps).length := by
  have hpos : 0 < K'.length := by have := h.num; omega
  have hne : K' ≠ [] := List.length_pos_iff.1 hpos
  have hp := (over_few h1 h2 h.up hpos).1
  have hn := h.num; have hl := h.len; have hcnt := h.cnt
  have hlt : (overL K' eps).length - 1 < n := by
    by_cases hone : (overL K' eps).length = 1
    · omega
    · have := over_less hne hone; omega
  have hle : (overL K' eps).length ≤ K'.length := by
    by_cases hone : (overL K' eps).length = 1
    · omega
    · exact Nat.le_of_lt (over_less hne hone)
  refine ⟨⟨ha, overL_first h.ok eps, over_up h1 h2 h.ok hl h.up hpos, by rw [firsts_len]; exact hc, hL, ?_, by simp; omega, .inr (by rw [firsts_len]; omega), by rw [firsts_len]; omega⟩, hlt, hp⟩
  rw [h.eq, if_pos h0]
  by_cases hone : (overL K' eps).length = 1
  · rw [buildL_one hne hone, if_neg (by omega), List.append_nil]
  · rw [buildL_more hne hone, if_pos (by omega)]; simp
theorem RI.pos {w wr : World} {eps : Int} {K : List Int} {A : Option Addr} {c n : Nat} {K' : List Int} {v : Value} {vs : List Value} {ll : List (List Sg)} (h : RI w eps K A c K' n v vs ll wr) (h0 : 0 < n) : 0 < K'.length := by have := h.num; omega
theorem scells_one (a : Int) (b c : Nat) (d e : Int) : ∀ u ∈ ([.int .u64 a, .float .f64 b, .float .f64 c, .int .i64 d, .int .i64 e] : List Value), u.oneCell' = true := by
  intro u hu; simp at hu; rcases hu with rfl | rfl | rfl | rfl | rfl <;> rfl
theorem seg_i64 {p n : Nat} (h : p ≤ n) (hn : n ≤ 4294967296) : i64ok (p : Int) := by unfold i64ok; omega
theorem wrap_nx9 {i n : Nat} (h : i < n) (hn : n ≤ 4294967296) : wrap64 ((i : Int) + 1) = (i : Int) + 1 := by unfold wrap64; omega
theorem len_nx9 {i n : Nat} (h : i < n) (hn : n ≤ 4294967296) : i + 1 ≤ maxLen ∧ (i + 1) * 40 ≤ 140737488355328 ∧ (i + 1) * 24 ≤ 140737488355328 := by unfold maxLen; omega
theorem len_nx8 {i m n : Nat} (h0 : 0 < m) (h : i + m ≤ n) (hn : n ≤ 4294967296) : i + 1 ≤ maxLen ∧ (i + 1) * 24 ≤ 140737488355328 := by unfold maxLen; omega
theorem sub_len9 {m : Nat} (h : 1 ≤ m) : (m : Int) - 1 = ((m - 1 : Nat) : Int) := by omega
theorem cut_num {p t n c : Nat} (h1 : p < t) (h2 : t ≤ n) (h3 : n ≤ c) : (0 : Int) ≤ (p : Int) ∧ (p : Int) ≤ (t : Int) ∧ (t : Int) ≤ (c : Int) ∧ p < c ∧ (p : Int) < (c : Int) ∧ t ≤ c ∧ p ≤ t := by omega

set_option maxHeartbeats 8000000 in
set_option maxRecDepth 100000 in
theorem rbuild_good (eps : Int) (h1 : 2 ≤ eps) (h2 : eps ≤ 64) (A : Option Addr) (c : Nat) (K : List Int) (hK : U64s K) (hn : K.length ≤ 4294967296) (hc : K.length ≤ c) (hu : K.Pairwise (· < ·)) (w : World) (hA : ArgU w A K) :
    Calls Try.prog 18 #[.slice A K.length c, .int .i64 eps] w fun e w' => ∃ v vs, e = .returned (.tuple #[v, .int .i64 0]) ∧ LLr w v vs (buildL eps K) w' := by
  obtain ⟨ir, hir, hr0, hr1, hr2⟩ := info_parts infoR
  obtain ⟨iS, hi, hz0, hz1, hz2⟩ := info_parts infoS
  have R := ref_Rising A c K (by omega) w hA
  rw [decide_eq_true hu] at R
  have a1 : ¬ eps < 2 := by omega
  have a2 : ¬ 64 < eps := by omega
  have I0 : Hid (∀ w', Below w.heap.size w w' → RI w eps K A c K K.length (.slice (some ⟨w'.heap.size, 0, none⟩) 0 0) [] [] (w'.alloc (.cells #[] 30))) := Lib.hid fun w' k => ⟨hA.below (below_new k _), hK, hu, hc, LLr.start k, by
    by_cases h0 : 0 < K.length
    · rw [if_pos h0]; rfl
    · have : K = [] := List.eq_nil_of_length_eq_zero (by omega)
      subst this; rw [buildL_nil]; rfl, by simp, .inl rfl, hn⟩
  have HE := Lib.hid (And.intro h1 h2)
  clear hA hu h1 h2 hK hc
  go_enter Try.func18, Try.ntmps18
  go_wp2_with fail
  refine R.mono ?_
  rintro e w1 ⟨rfl, b1⟩
  have I1 := Lib.hid (I0.out _ b1)
  clear b1 I0
  go_wp2_with fail
  go_loopw [0, 6, 7] (fun x y z wr => ∃ (A' : Option Addr) (c' : Nat) (K' : List Int) (n : Nat) (vs : List Value) (ll : List (List Sg)), x = .slice A' K'.length c' ∧ z = .int .i64 n ∧ Hid (RI w eps K A' c' K' n y vs ll wr)) (fun _ _ z _ => (intOf z).toNat)
  case atStart => exact ⟨A, c, K, K.length, [], [], rfl, rfl, I1⟩
  case round =>
    obtain ⟨A', c', K', n, vs, ll, rfl, rfl, I⟩ := hrel
    clear I1
    by_cases h0 : 0 < n
    · have n0 : (0 : Int) < (n : Int) := Int.natCast_pos.2 h0
      have hpos := I.out.pos h0
      have HN0 := Lib.hid h0
      have ED := rends_all eps A' c' K' I.out.ok (Nat.le_trans I.out.len (by decide)) wr I.out.arg
      have OKE := Lib.hid (ansL_ok eps K')
      have OV := Lib.hid (show overL K' eps = segsN K' eps (ansL eps K') (ansL eps K').length from rfl)
      obtain ⟨E, hE⟩ : ∃ E, ansL eps K' = E := ⟨_, rfl⟩
      rw [hE] at ED OKE OV
      obtain ⟨ce, hce⟩ : ∃ ce, ansC eps K' = ce := ⟨_, rfl⟩
      rw [hce] at ED
      have hEl := OKE.out.len
      have HKL := Lib.hid I.out.len
      have HCNT := Lib.hid I.out.cnt
      clear hE hce h0
      go_wp2_with fail
      refine ED.mono ?_
      rintro e w2 ⟨AE, cE, rfl, hN, _, b2⟩
      have I2 := Lib.hid (And.intro hN b2)
      have F0 := Lib.hid (FS.start (Below.refl w2.heap.size w2))
      clear ED hN b2
      go_wp2_with fail
      go_loopw [10, 11, 12] (fun x y z wx => ∃ i : Nat, i ≤ E.length ∧ z = .int .i64 i ∧ y = .int .i64 (begN E i : Nat) ∧ Hid (FS w2 x (segsN K' eps E i) wx)) (fun _ _ z _ => E.length - (intOf z).toNat)
      case atStart => exact ⟨0, Nat.zero_le _, rfl, rfl, F0⟩
      case round =>
        obtain ⟨wi, rfl⟩ : ∃ wi : World, wi = wr := ⟨_, rfl⟩
        obtain ⟨i, hi', rfl, rfl, F⟩ := hrel
        clear F0
        by_cases hlt : i < E.length
        · have i0' : (0 : Int) ≤ (i : Int) := Int.natCast_nonneg i
          have i1 : (i : Int) < (E.length : Int) := Int.ofNat_lt.2 hlt
          obtain ⟨eb, eo, rfl, heb, hce0⟩ := I2.out.1.getD hlt
          have XE := Lib.hid (show ∀ w', Below w2.heap.size w2 w' → w'.cell? ⟨eb, eo + i, none⟩ = some (.int .i64 (E.getD i 0 : Int)) from fun w' k => (k.cell (p := ⟨eb, _, none⟩) heb).trans hce0)
          obtain ⟨p1, p2⟩ := OKE.out.at_ i hlt
          obtain ⟨b, o, rfl, hb, hkc⟩ := I.out.arg hpos
          have hcc := I.out.cap
          have SS := stretch_len (K := K') (p := begN E i) p2
          have BE := OKE.out.at_ i hlt
          have KL := HKL.out
          have SI := seg_i64 (Nat.le_trans (Nat.le_of_lt p1) p2) KL
          have SL : (stretch K' (begN E i) (E.getD i 0)).length ≤ 17592186044416 := by rw [SS]; exact Nat.le_trans (Nat.sub_le _ _) (Nat.le_trans p2 (Nat.le_trans KL (by decide)))
          have OF' : ∀ w', Below w2.heap.size w2 w' → Calls Try.prog 44 #[.slice (some ⟨b, o + begN E i, none⟩) (E.getD i 0 - begN E i) (c' - begN E i), .int .i64 eps, .int .i64 (begN E i : Nat)] w' fun e w3 => e = .returned (.tuple #[(segI K' eps E i).v, .int .i64 (ofS (stretch K' (begN E i) (E.getD i 0)) eps (begN E i)).2]) ∧ Below w'.heap.size w' w3 := fun w' k => by
            have := refOfS_any (some ⟨b, o + begN E i, none⟩) (c' - begN E i) (stretch K' (begN E i) (E.getD i 0)) eps (begN E i) SI (I.out.ok.stretch _ _) SL w' ((I.out.arg.below (below_next I2.out.2 k)).stretch _ _)
            rw [SS] at this
            exact this
          have HO := Lib.hid OF'
          have ST := Lib.hid (segsN_succ K' eps E i)
          have BN := begN_succ E i
          generalize (ofS (stretch K' (begN E i) (E.getD i 0)) eps (begN E i)).2 = er at HO
          obtain ⟨s, hs⟩ : ∃ s, segI K' eps E i = s := ⟨_, rfl⟩
          rw [hs] at HO ST
          obtain ⟨first, sl, ic, fr, up⟩ := s
          unfold Sg.v at HO
          simp only [] at HO
          have LN : (segsN K' eps E i).length = i := segsN_len _ _ _ _
          obtain ⟨L, hL⟩ : ∃ L, segsN K' eps E i = L := ⟨_, rfl⟩
          rw [hL] at F ST LN
          obtain ⟨p, hp⟩ : ∃ p, begN E i = p := ⟨_, rfl⟩
          obtain ⟨t, ht⟩ : ∃ t, E.getD i 0 = t := ⟨_, rfl⟩
          rw [ht] at XE p1 p2 HO BN
          rw [hp] at p1 HO ⊢
          have xe := XE.out _ F.out.bel
          obtain ⟨q0, q1, q2, q3, q4, q5, q6⟩ := cut_num p1 p2 hcc
          have v1 := wrap_nx9 hlt (Nat.le_trans hEl KL)
          have LB1 : L.length + 1 ≤ maxLen := LN ▸ (len_nx9 hlt (Nat.le_trans hEl KL)).1
          have LB2 : (L.length + 1) * 40 ≤ 140737488355328 := LN ▸ (len_nx9 hlt (Nat.le_trans hEl KL)).2.1
          have HBN := Lib.hid BN
          have HLN := Lib.hid LN
          clear OF' SI SL SS hs hL hp ht hkc hce0 BE KL p1 p2 hcc hb heb BN
          go_wp2_with fail
          refine (HO.out _ F.out.bel).mono ?_
          rintro e w3 ⟨rfl, b3⟩
          have F3 := Lib.hid (F.out.below b3)
          have DS : Hid (Blk (w3.alloc (.cells #[.int .u64 first, .float .f64 sl, .float .f64 ic, .int .i64 fr, .int .i64 up] 33)) w3.heap.size 33 #[.int .u64 first, .float .f64 sl, .float .f64 ic, .int .i64 fr, .int .i64 up]) := Lib.hid (Blk.new _ _ _)
          have F4 := Lib.hid (F3.out.below (below_new (Below.refl _ _) (.cells #[.int .u64 first, .float .f64 sl, .float .f64 ic, .int .i64 fr, .int .i64 up] 33)))
          clear HO b3 F xe
          go_upto_region 15 with fail
          obtain ⟨wz, hwz⟩ : ∃ wz, wz = w3.alloc (.cells #[.int .u64 first, .float .f64 sl, .float .f64 ic, .int .i64 fr, .int .i64 up] 33) := ⟨_, rfl⟩
          rw [← hwz] at DS F4 ⊢
          clear hwz F3
          have d0 := DS.out.cell 0; have d1 := DS.out.cell 1; have d2 := DS.out.cell 2; have d3 := DS.out.cell 3; have d4 := DS.out.cell 4
          have HO1 : Hid ((wz.alloc (.cells #[.int .u64 first, .float .f64 sl, .float .f64 ic, .int .i64 fr, .int .i64 up] 33)).ownsRow 0 33 5 u10 L.length (sflat L)) := Lib.hid (own_chg F4.out.own ((Chg.refl (fun _ => False) wz).alloc _) (fun _ _ h => h))
          have HFO := Lib.hid (scells_one first sl ic fr up)
          go_upto_region 16 with (at_builtin; go_loud (refine wpList_append_lies _ rfl (.tmp 55) (.tmp 57) 30 (by rfl) 0 33 iS _ 5 40 Try.underlying30 hi hz0 hz1 hz2 rfl (Nat.succ_pos 4) u10 L.length (sflat L) (by rfl) HO1.out ⟨wz.heap.size, 0, none⟩ 1 1 [.int .u64 first, .float .f64 sl, .float .f64 ic, .int .i64 fr, .int .i64 up] (by rfl) (by rfl) (World.news_of_block (Blk.new wz 33 #[.int .u64 first, .float .f64 sl, .float .f64 ic, .int .i64 fr, .int .i64 up])) HFO.out Nat.one_pos LB1 LB2 (Nat.zero_le _) (wz.heap.size + 1) (by simp) ?_; intro gn capn wn hown hgr hat hltn; have HG2 := Lib.hid (F4.out.grown (H := 0) (s := ⟨first, sl, ic, fr, up⟩) rfl hown hgr hat); clear hown hgr hat hltn))
          have xe := XE.out _ HG2.out.bel
          clear d0 d1 d2 d3 d4 DS F4 HO1 HFO
          go_wp2_with fail
          go_roundw
          case rel => exact ⟨i + 1, Nat.succ_le_of_lt hlt, (by first | (rw [v1]; rfl) | rfl), by rw [HBN.out], Lib.hid (by have h := HG2.out; rw [HLN.out] at h; rw [ST.out]; exact h)⟩
          case measure => first | (rw [v1]; exact meas_next hlt) | exact meas_next hlt
        · obtain rfl : i = E.length := Nat.le_antisymm hi' (Nat.le_of_not_lt hlt)
          have i1 : ¬ (E.length : Int) < (E.length : Int) := Int.lt_irrefl _
          rw [← OV.out] at F
          have NX := Lib.hid (fun A2 c2 v2 vs2 w9 ha hc hL => I.out.next (A2 := A2) (c2 := c2) (v2 := v2) (vs2 := vs2) (w1 := w9) HE.out.1 HE.out.2 HN0.out ha hc hL)
          obtain ⟨l, hl⟩ : ∃ l, overL K' eps = l := ⟨_, rfl⟩
          rw [hl] at F NX
          have LLN : l.length ≤ 4294967296 := by rw [← hl, OV.out, segsN_len]; have := HKL.out; omega
          obtain ⟨A3, c3, e3, hc3⟩ := own_slice F.out.own
          subst e3
          have LW := Lib.hid (I.out.lls.below (below_next I2.out.2 F.out.bel))
          have FW := Lib.hid F.out.own
          have FN := Lib.hid (fun g hg => Nat.le_trans I.out.lls.bel.size (Nat.le_trans I2.out.2.size (F.out.new g hg)))
          have HC3 := Lib.hid hc3
          have CB1 := (len_nx8 HN0.out HCNT.out hn).1
          have CB2 := (len_nx8 HN0.out HCNT.out hn).2
          have HO1 : Hid ((wi.alloc (.cells #[.slice A3 l.length c3] 30)).ownsRow 0 30 1 u6 ll.length vs) := Lib.hid (own_chg LW.out.row (Chg.of_below (below_new (Below.refl _ _) _)) (fun _ _ h => h))
          have HFO : Hid (∀ u ∈ [Value.slice A3 l.length c3], u.oneCell' = true) := Lib.hid (by intro u hu; simp at hu; subst hu; rfl)
          clear hl hc3 F hlt
          go_upto_region 18 with (at_builtin; go_loud (refine wpList_append_lies _ rfl (.tmp 63) (.tmp 65) 25 (by rfl) 0 30 ir _ 1 24 Try.underlying25 hir hr0 hr1 hr2 rfl Nat.one_pos u6 ll.length vs (by rfl) HO1.out ⟨wi.heap.size, 0, none⟩ 1 1 [.slice A3 l.length c3] (by rfl) (by rfl) (World.news_of_block (Blk.new wi 30 #[.slice A3 l.length c3])) HFO.out Nat.one_pos CB1 CB2 (Nat.zero_le _) (wi.heap.size + 1) (by simp) ?_; intro gn capn wn hown hgr hat hltn; have HG2 := Lib.hid (LW.out.snoc rfl FW.out FN.out hown hgr hat); have A9 := Lib.hid (own_args (own_chg FW.out (((Chg.refl _ wi).alloc _).grown hgr (fun k hk _ => hk)) (own_ne_own LW.out.row FW.out (by decide)))); clear hown hgr hat hltn))
          have RF := refFirsts_any A3 c3 l (Nat.le_trans LLN (by decide)) wn A9.out
          go_wp2_with fail
          refine RF.mono ?_
          rintro e w9 ⟨v9, rfl, F9⟩
          obtain ⟨A4, c4, e4, hA4, hc4⟩ := F9.arg
          subst e4
          rw [firsts_len] at hc4
          obtain ⟨N1, N2, N3⟩ := NX.out A4 c4 _ _ w9 hA4 hc4 (HG2.out.below F9.bel)
          have N1 := Lib.hid N1
          have HFL := Lib.hid (firsts_len l)
          have HV1 := Lib.hid (sub_len9 N3)
          clear RF A9 F9 hA4 hc4 NX
          go_wp2_with fail
          go_roundw
          case rel => exact ⟨A4, c4, firstsL l, l.length - 1, _, _, rfl, (by rw [HV1.out]), N1⟩
          case measure => rw [HV1.out]; exact N2
    · have n0 : ¬ (0 : Int) < (n : Int) := fun h => h0 (Int.natCast_pos.1 h)
      have E := Lib.hid (show buildL eps K = ll from by have := I.out.eq; rwa [if_neg h0, List.append_nil] at this)
      go_wp2_with fail
      simp [bodyPost, results, Try.results18, go_sem]
      exact ⟨vs, by rw [E.out]; exact I.out.lls⟩
end Go.Proofs.Ytnccgpdniigekaa
/-
  The law: what is built is right.
-/
namespace Go.Proofs.Ytnccgpdniigekaa
open Go.RowKit
set_option linter.unusedVariables false
set_option linter.unusedSimpArgs false
attribute [local go_sem high] run_store_float

/-- What may be asked of what is built. -/
theorem build_segs {eps : Int} {K : List Int} (h1 : 2 ≤ eps) (h2 : eps ≤ 64) (hU : U64s K) (hn : K.length ≤ 4294967296) (hu : K.Pairwise (· < ·)) :
    (∀ l ∈ buildL eps K, (∀ s ∈ l, SgOk s) ∧ l.length ≤ K.length) ∧ (buildL eps K).length ≤ K.length := by
  by_cases h0 : K = []
  · subst h0; rw [buildL_nil]; exact ⟨fun l hl => absurd hl (by simp), Nat.le_refl _⟩
  · have hl : 0 < K.length := List.length_pos_iff.2 h0
    obtain ⟨r1, r2, r3, r4⟩ := build_right h1 h2 _ K rfl hU hn hu hl
    exact ⟨r4, Nat.le_trans r3 (maxH_le (by omega) _ (by omega)).2⟩
end Go.Proofs.Ytnccgpdniigekaa
/-
  The reference's Build, whole; what the law overwrites.
-/
namespace Go.Proofs.Ytnccgpdniigekaa
open Go.RowKit
set_option linter.unusedVariables false
set_option linter.unusedSimpArgs false
attribute [local go_sem high] run_store_float

/-- The levels and the code that both answer. -/
noncomputable def bldL (eps : Int) (K : List Int) : List (List Sg) := if Good eps K then buildL eps K else []
def bldC (eps : Int) (K : List Int) : Int := if eps < 2 ∨ 64 < eps then 1 else if K.Pairwise (· < ·) then 0 else 80
theorem rbuild_all (eps : Int) (A : Option Addr) (c : Nat) (K : List Int) (hK : U64s K) (hn : K.length ≤ 4294967296) (hc : K.length ≤ c) (w : World) (hA : ArgU w A K) :
    Calls Try.prog 18 #[.slice A K.length c, .int .i64 eps] w fun e w' => ∃ A' c', e = .returned (.tuple #[.slice A' (bldL eps K).length c', .int .i64 (bldC eps K)]) ∧ ArgAb w.heap.size w' A' (bldL eps K) ∧ Below w.heap.size w w' := by
  by_cases hb : eps < 2 ∨ 64 < eps
  · have e1 : bldL eps K = [] := by unfold bldL; rw [if_neg (fun h => by have h1 := h.1; have h2 := h.2.1; omega)]
    have e2 : bldC eps K = 1 := by unfold bldC; rw [if_pos hb]
    rw [e1, e2]
    refine (rbuild_bad eps hb A K.length c w).mono ?_
    rintro e w' ⟨rfl, rfl⟩
    exact ⟨none, 0, rfl, fun h => absurd h (by simp), Below.refl _ _⟩
  · by_cases hu : K.Pairwise (· < ·)
    · have e1 : bldL eps K = buildL eps K := by unfold bldL; rw [if_pos ⟨by omega, by omega, hu⟩]
      have e2 : bldC eps K = 0 := by unfold bldC; rw [if_neg hb, if_pos hu]
      rw [e1, e2]
      refine (rbuild_good eps (by omega) (by omega) A c K hK hn hc hu w hA).mono ?_
      rintro e w' ⟨v, vs, rfl, h⟩
      obtain ⟨A', c', rfl, ha⟩ := h.ab
      exact ⟨A', c', rfl, ha, h.bel⟩
    · have e1 : bldL eps K = [] := by unfold bldL; rw [if_neg (fun h => hu h.2.2)]
      have e2 : bldC eps K = 80 := by unfold bldC; rw [if_neg hb, if_neg hu]
      rw [e1, e2]
      refine (rbuild_unsorted eps (by omega) (by omega) A c K (by omega) hu w hA).mono ?_
      rintro e w' ⟨rfl, b⟩
      exact ⟨none, 0, rfl, fun h => absurd h (by simp), b⟩
/-- The answer under way to be overwritten, from level i on. -/
structure OWr (w0 : World) (b : Nat) (gs : List Nat) (ls : List (List Sg)) (i : Nat) (wr : World) : Prop where
  len : gs.length = ls.length
  row : ∃ cs, Blk wr b 30 cs ∧ ls.length ≤ cs.size ∧ ∀ j, i ≤ j → j < ls.length → cs[j]? = some (.slice (some ⟨gs.getD j 0, 0, none⟩) (ls.getD j []).length (ls.getD j []).length)
  inn : ∀ j, i ≤ j → j < ls.length → ∃ cs, Blk wr (gs.getD j 0) 33 cs ∧ cs.size = (ls.getD j []).length * 5
  new : ∀ g ∈ gs, w0.heap.size ≤ g
  dis : gs.Pairwise (· < ·)
  ge : w0.heap.size ≤ b
  bel : Below w0.heap.size w0 wr
theorem LLm.ow {w0 w : World} {b n c : Nat} {gs : List Nat} {ls : List (List Sg)} (h : LLm w0 (.slice (some ⟨b, 0, none⟩) n c) gs ls w) : OWr w0 b gs ls 0 w := by
  rcases h.row.2 with ⟨hv, h0⟩ | ⟨g, cap, cur, hv, _, hb, hc, _, hsz, htk⟩
  · cases hv
  · injection hv with e1 e2 e3
    injection e1 with e1
    injection e1 with e1
    subst e1
    refine ⟨h.len, ⟨cur, hb, by omega, fun j _ hj => ?_⟩, fun j _ hj => ⟨_, (h.inn j hj).1, by simp [length_sflat]⟩, fun g hg => ?_, h.dis, h.own b rfl, h.bel⟩
    · have := svs_get h.len hj
      rw [← htk, List.getElem?_take, if_pos (by omega)] at this
      simpa using this
    · obtain ⟨j, hj, rfl⟩ := List.mem_iff_getElem.1 hg
      have := (h.inn j (by rw [← h.len]; exact hj)).2
      rwa [List.getD_eq_getElem?_getD, List.getElem?_eq_getElem hj] at this
section
variable {w0 wr wx : World} {b i : Nat} {gs : List Nat} {ls : List (List Sg)}
theorem OWr.at_ (h : OWr w0 b gs ls i wr) (hi : i < ls.length) : wr.cell? ⟨b, i, none⟩ = some (.slice (some ⟨gs.getD i 0, 0, none⟩) (ls.getD i []).length (ls.getD i []).length) ∧ wr.frozen? ⟨b, i, none⟩ = false := by
  obtain ⟨cs, hb, _, hc⟩ := h.row
  exact ⟨by rw [hb.cell]; exact hc i (Nat.le_refl _) hi, hb.free i⟩
theorem dis_ne {gs : List Nat} (hd : gs.Pairwise (· < ·)) {i j : Nat} (hi : i < gs.length) (hj : j < gs.length) (h : i ≠ j) : gs.getD i 0 ≠ gs.getD j 0 := by
  have hp := List.pairwise_iff_getElem.1 hd
  rw [List.getD_eq_getElem?_getD, List.getD_eq_getElem?_getD, List.getElem?_eq_getElem hi, List.getElem?_eq_getElem hj]
  simp only [Option.getD_some]
  rcases Nat.lt_or_ge i j with hlt | hge
  · have := hp i j hi hj hlt; omega
  · have := hp j i hj hi (by omega); omega
theorem mem_gsr (h : OWr w0 b gs ls i wr) {j : Nat} (hj : j < ls.length) : gs.getD j 0 ∈ gs := by
  have : j < gs.length := by rw [h.len]; exact hj
  rw [List.getD_eq_getElem?_getD, List.getElem?_eq_getElem this]; exact List.getElem_mem _
/-- Level i's block turns, all else stays. -/
theorem OWr.turn (h : OWr w0 b gs ls i wr) (hi : i < ls.length) (C : Chg (fun k => k = gs.getD i 0) wr wx) (hb : (∃ cs, Blk wx (gs.getD i 0) 33 cs ∧ cs.size = (ls.getD i []).length * 5)) : OWr w0 b gs ls i wx := by
  obtain ⟨cs, hB, h1, h2⟩ := h.row
  obtain ⟨ci, hI, _⟩ := h.inn i (Nat.le_refl _) hi
  have hne : b ≠ gs.getD i 0 := by
    intro e
    rw [← e] at hI
    exact absurd (Blk.uniq hB hI).1 (by decide)
  refine ⟨h.len, ⟨cs, hB.chg C hne, h1, h2⟩, fun j hj hj2 => ?_, h.new, h.dis, h.ge, below_chg h.bel C (fun k _ hk => by rw [hk]; exact h.new _ (mem_gsr h hi)) h.bel.size⟩
  by_cases e : j = i
  · subst e; exact hb
  · obtain ⟨cj, hJ, hs⟩ := h.inn j hj hj2
    exact ⟨cj, hJ.chg C (dis_ne h.dis (by rw [h.len]; exact hj2) (by rw [h.len]; exact hi) e), hs⟩
theorem OWr.below (h : OWr w0 b gs ls i wr) (k : Below wr.heap.size wr wx) : OWr w0 b gs ls i wx := by
  obtain ⟨cs, hB, h1, h2⟩ := h.row
  refine ⟨h.len, ⟨cs, hB.below k, h1, h2⟩, fun j hj hj2 => ?_, h.new, h.dis, h.ge, below_next h.bel k⟩
  obtain ⟨cj, hJ, hs⟩ := h.inn j hj hj2
  exact ⟨cj, hJ.below k, hs⟩
theorem OWr.own (h : OWr w0 b gs ls i wr) (hi : i < ls.length) (hn : (ls.getD i []).length ≤ maxLen) : ∃ xs, wr.ownsRow 0 33 5 (.slice (some ⟨gs.getD i 0, 0, none⟩) (ls.getD i []).length (ls.getD i []).length) (ls.getD i []).length xs := by
  obtain ⟨ci, hI, hs⟩ := h.inn i (Nat.le_refl _) hi
  exact ⟨ci.toList, by simpa using hs, .inr ⟨_, _, ci, rfl, Nat.zero_le _, hI, Nat.le_refl _, hn, hs, by rw [List.take_of_length_le (by simp [hs])]⟩⟩
theorem OWr.write (h : OWr w0 b gs ls i wr) (hi : i < ls.length) (k : Nat) (u v x y z : Value) : OWr w0 b gs ls i (((((wr.setCell ⟨gs.getD i 0, k, none⟩ u).setCell ⟨gs.getD i 0, k + 1, none⟩ v).setCell ⟨gs.getD i 0, k + 2, none⟩ x).setCell ⟨gs.getD i 0, k + 3, none⟩ y).setCell ⟨gs.getD i 0, k + 4, none⟩ z) := by
  obtain ⟨ci, hI, hs⟩ := h.inn i (Nat.le_refl _) hi
  exact h.turn hi ((((((Chg.refl (fun j => j = gs.getD i 0) wr).setCell (p := ⟨gs.getD i 0, _, none⟩) (fun _ => rfl) _).setCell (p := ⟨gs.getD i 0, _, none⟩) (fun _ => rfl) _).setCell (p := ⟨gs.getD i 0, _, none⟩) (fun _ => rfl) _).setCell (p := ⟨gs.getD i 0, _, none⟩) (fun _ => rfl) _).setCell (p := ⟨gs.getD i 0, _, none⟩) (fun _ => rfl) _)
    ⟨_, ((((hI.set k u).set (k + 1) v).set (k + 2) x).set (k + 3) y).set (k + 4) z, by simpa using hs⟩
theorem OWr.cells (h : OWr w0 b gs ls i wr) (hi : i < ls.length) {k : Nat} (hk : k < (ls.getD i []).length) : (∀ j, j < 5 → ∃ u, wr.cell? ⟨gs.getD i 0, k * 5 + j, none⟩ = some u) ∧ ∀ j, wr.frozen? ⟨gs.getD i 0, j, none⟩ = false := by
  obtain ⟨ci, hI, hs⟩ := h.inn i (Nat.le_refl _) hi
  refine ⟨fun j hj => ?_, fun j => hI.free j⟩
  have hlt : k * 5 + j < ci.size := by rw [hs]; omega
  exact ⟨ci[k * 5 + j], by rw [hI.cell]; exact Array.getElem?_eq_getElem hlt⟩
end
end Go.Proofs.Ytnccgpdniigekaa
