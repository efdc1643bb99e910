/-
  Levels in memory as the reference builds them: rows with room behind.
-/
import Derived.Test.YtnccgpdniigekaaQG27
import Derived.Test.YtnccgpdniigekaaQG33
namespace Go.Proofs.Ytnccgpdniigekaa
open Go.RowKit
set_option linter.unusedVariables false
set_option linter.unusedSimpArgs false
attribute [local go_sem high] run_store_float

theorem own_args {w : World} {base : Nat} {A : Option Addr} {n c : Nat} {l : List Sg} (h : w.ownsRow base 33 5 (.slice A n c) l.length (sflat l)) : ArgS w A l := by
  rcases h.2 with ⟨hv, h0⟩ | ⟨g, cap, cur, hv, hr⟩
  · exact fun hn => by omega
  · injection hv with e1 e2 e3
    subst e1
    have hlt : g < w.heap.size := Blk.lt (t := 33) hr.2.1
    refine fun _ => ⟨g, 0, rfl, hlt, fun i hi => ?_⟩
    have key : ∀ j, j < 5 → w.cell? ⟨g, 0 + (i * 5 + j), none⟩ = (scells (l.getD i zS))[j]? := by
      intro j hj
      have e : l.getD i zS = l[i] := by rw [List.getD_eq_getElem?_getD, List.getElem?_eq_getElem hi]; rfl
      rw [e]
      have hg := sflat_get l i j hi hj
      have hj5 : j < (scells l[i]).length := by rw [length_scells]; exact hj
      rw [List.getElem?_eq_getElem hj5] at hg ⊢
      have := World.ownsRow.cells h (g := g) rfl (i * 5 + j) _ hg
      rwa [Addr.add_mid] at this
    exact ⟨by simpa [scells] using key 0 (by omega), by simpa [scells, Nat.add_assoc] using key 1 (by omega), by simpa [scells, Nat.add_assoc] using key 2 (by omega), by simpa [scells, Nat.add_assoc] using key 3 (by omega), by simpa [scells, Nat.add_assoc] using key 4 (by omega)⟩
theorem own_slice {w : World} {base : Nat} {e : TypeId} {size n : Nat} {v : Value} {xs : List Value} (h : w.ownsRow base e size v n xs) : ∃ A c, v = .slice A n c ∧ n ≤ c := by
  rcases h.2 with ⟨hv, h0⟩ | ⟨g, cap, cur, hv, _, _, hc, _⟩
  · exact ⟨none, 0, by rw [hv, h0], by omega⟩
  · exact ⟨_, _, hv, hc⟩
/-- Segments gathered so far. -/
structure FS (w : World) (v : Value) (L : List Sg) (wr : World) : Prop where
  own : wr.ownsRow 0 33 5 v L.length (sflat L)
  new : ∀ g, v.ownBlock = some g → w.heap.size ≤ g
  bel : Below w.heap.size w wr
theorem FS.start {w w1 : World} (k : Below w.heap.size w w1) : FS w (.slice (some ⟨w1.heap.size, 0, none⟩) 0 0) [] (w1.alloc (.cells #[] 33)) :=
  ⟨⟨rfl, .inr ⟨w1.heap.size, 0, #[], rfl, Nat.zero_le _, Blk.new _ _ _, Nat.le_refl _, Nat.zero_le _, rfl, rfl⟩⟩, fun g hg => by simp [Value.ownBlock] at hg; have := k.size; omega, below_new k _⟩
theorem FS.below {w wr w1 : World} {v : Value} {L : List Sg} (h : FS w v L wr) (k : Below wr.heap.size wr w1) : FS w v L w1 := ⟨own_chg h.own (Chg.of_below k) (fun _ _ h => h), h.new, below_next h.bel k⟩
theorem FS.grown {w wr w1 : World} {v : Value} {L : List Sg} {s : Sg} {o : Obj} {g cap n H : Nat} (h : FS w v L wr) (hn : L.length = n)
    (hown : w1.ownsRow 0 33 5 (.slice (some ⟨g, 0, none⟩) (n + 1) cap) (n + 1) (sflat L ++ scells s))
    (hgr : (wr.alloc o).grownBy w1 v.ownBlock) (hat : v.ownBlock = some g ∨ g = wr.heap.size + 1) : FS w (.slice (some ⟨g, 0, none⟩) (n + 1) cap) (L ++ [s]) w1 := by
  subst hn
  have C : Chg (fun k => v.ownBlock = some k) wr w1 := ((Chg.refl _ wr).alloc o).grown hgr (fun k hk _ => hk)
  refine ⟨?_, fun g' hg' => ?_, below_chg h.bel C (fun k _ hk => h.new k hk) h.bel.size⟩
  · have e : sflat (L ++ [s]) = sflat L ++ scells s := by rw [sflat_append, sflat_cons, sflat_nil, List.append_nil]
    rw [e, List.length_append]; exact hown
  · simp only [Value.ownBlock, Option.some.injEq] at hg'
    subst hg'
    rcases hat with m | m
    · exact h.new _ m
    · have := h.bel.size; omega
/-- Levels, each a row of its own. -/
structure LLr (w0 : World) (v : Value) (vs : List Value) (ll : List (List Sg)) (w : World) : Prop where
  len : vs.length = ll.length
  row : w.ownsRow 0 30 1 v ll.length vs
  own : ∀ g, v.ownBlock = some g → w0.heap.size ≤ g
  inn : ∀ i, i < ll.length → w.ownsRow 0 33 5 (vs.getD i undef) (ll.getD i []).length (sflat (ll.getD i []))
  inw : ∀ i, i < ll.length → ∀ g, (vs.getD i undef).ownBlock = some g → w0.heap.size ≤ g
  bel : Below w0.heap.size w0 w
section
variable {w0 w w' : World} {v : Value} {vs : List Value} {ll : List (List Sg)}
theorem LLr.start {w1 : World} (k : Below w0.heap.size w0 w1) : LLr w0 (.slice (some ⟨w1.heap.size, 0, none⟩) 0 0) [] [] (w1.alloc (.cells #[] 30)) :=
  ⟨rfl, ⟨rfl, .inr ⟨w1.heap.size, 0, #[], rfl, Nat.zero_le _, Blk.new _ _ _, Nat.le_refl _, Nat.zero_le _, rfl, rfl⟩⟩, fun g hg => by simp [Value.ownBlock] at hg; have := k.size; omega, fun i hi => absurd hi (by simp), fun i hi => absurd hi (by simp), below_new k _⟩
theorem LLr.below (h : LLr w0 v vs ll w) (k : Below w.heap.size w w') : LLr w0 v vs ll w' :=
  ⟨h.len, own_chg h.row (Chg.of_below k) (fun _ _ h => h), h.own, fun i hi => own_chg (h.inn i hi) (Chg.of_below k) (fun _ _ h => h), h.inw, below_next h.bel k⟩
theorem own_ne_own {n n' s s' b b' : Nat} {e e' : TypeId} {v v' : Value} {xs xs' : List Value} (h : w.ownsRow b e s v n xs) (h' : w.ownsRow b' e' s' v' n' xs') (hne : e ≠ e') : ∀ g, v'.ownBlock = some g → ¬ v.ownBlock = some g := by
  intro g hg hk
  obtain ⟨cs, hb⟩ := own_blk h' hg
  exact own_ne_blk h hb hne hk
theorem LLr.snoc (h : LLr w0 v vs ll w) {n : Nat} (hn : ll.length = n) {x : Value} {l : List Sg} (hx : w.ownsRow 0 33 5 x l.length (sflat l)) (hxn : ∀ g, x.ownBlock = some g → w0.heap.size ≤ g)
    {o : Obj} {w1 : World} {g cap : Nat} (hown : w1.ownsRow 0 30 1 (.slice (some ⟨g, 0, none⟩) (n + 1) cap) (n + 1) (vs ++ [x]))
    (hgr : (w.alloc o).grownBy w1 v.ownBlock) (hat : v.ownBlock = some g ∨ g = w.heap.size + 1) : LLr w0 (.slice (some ⟨g, 0, none⟩) (n + 1) cap) (vs ++ [x]) (ll ++ [l]) w1 := by
  subst hn
  have C : Chg (fun k => v.ownBlock = some k) w w1 := ((Chg.refl _ w).alloc o).grown hgr (fun k hk _ => hk)
  refine ⟨by simp [h.len], by simpa using hown, fun g' hg' => ?_, fun i hi => ?_, fun i hi => ?_, below_chg h.bel C (fun k _ hk => h.own k hk) h.bel.size⟩
  · simp only [Value.ownBlock, Option.some.injEq] at hg'
    subst hg'
    rcases hat with m | m
    · exact h.own _ m
    · have := h.bel.size; omega
  · rcases Nat.lt_or_ge i ll.length with hlt | hge
    · have e1 : (vs ++ [x]).getD i undef = vs.getD i undef := by rw [List.getD_eq_getElem?_getD, List.getD_eq_getElem?_getD, List.getElem?_append_left (by rw [h.len]; exact hlt)]
      have e2 : (ll ++ [l]).getD i [] = ll.getD i [] := by rw [List.getD_eq_getElem?_getD, List.getD_eq_getElem?_getD, List.getElem?_append_left hlt]
      rw [e1, e2]
      exact own_chg (h.inn i hlt) C (own_ne_own h.row (h.inn i hlt) (by decide))
    · have hi' : i = ll.length := by simp at hi; omega
      subst hi'
      have e1 : (vs ++ [x]).getD ll.length undef = x := by rw [← h.len]; simp
      have e2 : (ll ++ [l]).getD ll.length [] = l := by simp
      rw [e1, e2]
      exact own_chg hx C (own_ne_own h.row hx (by decide))
  · rcases Nat.lt_or_ge i ll.length with hlt | hge
    · rw [List.getD_eq_getElem?_getD, List.getElem?_append_left (by rw [h.len]; exact hlt), ← List.getD_eq_getElem?_getD]
      exact h.inw i hlt
    · have hi' : i = ll.length := by simp at hi; omega
      subst hi'
      have e1 : (vs ++ [x]).getD ll.length undef = x := by rw [← h.len]; simp
      rw [e1]; exact hxn
theorem LLr.arg (h : LLr w0 v vs ll w) : ∃ A c, v = .slice A ll.length c ∧ ArgSS w A ll := by
  rcases h.row.2 with ⟨hv, h0⟩ | ⟨g, cap, cur, hv, hr⟩
  · exact ⟨none, 0, by rw [hv, h0], fun h => by omega⟩
  · have hlt : g < w.heap.size := Blk.lt (t := 30) hr.2.1
    refine ⟨_, _, hv, fun _ => ⟨g, 0, rfl, hlt, fun i hi => ?_⟩⟩
    obtain ⟨A', c', e1, _⟩ := own_slice (h.inn i hi)
    have hr' := h.inn i hi
    rw [e1] at hr'
    have hc := World.ownsRow.cells h.row (g := g) (by rw [hv]; rfl) i (.slice A' (ll.getD i []).length c') (by
      have : i < vs.length := by rw [h.len]; exact hi
      rw [← e1, List.getD_eq_getElem?_getD, List.getElem?_eq_getElem this]; rfl)
    rw [Addr.add_mid] at hc
    exact ⟨_, _, hc, own_args hr'⟩
end
/-- The slice reads as these levels, all of it in blocks from m on. -/
def ArgAb (m : Nat) (w : World) (A : Option Addr) (ll : List (List Sg)) : Prop := 0 < ll.length → ∃ b o, A = some ⟨b, o, none⟩ ∧ m ≤ b ∧ b < w.heap.size ∧ ∀ i, i < ll.length → ∃ A' c', w.cell? ⟨b, o + i, none⟩ = some (.slice A' (ll.getD i []).length c') ∧
  (0 < (ll.getD i []).length → ∃ b' o', A' = some ⟨b', o', none⟩ ∧ m ≤ b' ∧ b' < w.heap.size ∧ ∀ k, k < (ll.getD i []).length → SegAt w b' (o' + k * 5) ((ll.getD i []).getD k zS))
theorem ArgAb.ss {m : Nat} {w : World} {A : Option Addr} {ll : List (List Sg)} (h : ArgAb m w A ll) : ArgSS w A ll := fun hn => by
  obtain ⟨b, o, hA, _, hb, hc⟩ := h hn
  refine ⟨b, o, hA, hb, fun i hi => ?_⟩
  obtain ⟨A', c', h1, h2⟩ := hc i hi
  exact ⟨A', c', h1, fun h0 => by obtain ⟨b', o', e, _, hb', hk⟩ := h2 h0; exact ⟨b', o', e, hb', hk⟩⟩
theorem SegAt.chg {S : Nat → Prop} {w w' : World} {b o : Nat} {s : Sg} (h : SegAt w b o s) (C : Chg S w w') (hb : b < w.heap.size) (hS : ¬ S b) : SegAt w' b o s := by
  have e : ∀ j, w'.cell? ⟨b, j, none⟩ = w.cell? ⟨b, j, none⟩ := fun j => World.cell?_of_block (C.block b hb hS)
  exact ⟨(e _).trans h.1, (e _).trans h.2.1, (e _).trans h.2.2.1, (e _).trans h.2.2.2.1, (e _).trans h.2.2.2.2⟩
theorem ArgAb.chg {m : Nat} {S : Nat → Prop} {w w' : World} {A : Option Addr} {ll : List (List Sg)} (h : ArgAb m w A ll) (C : Chg S w w') (hS : ∀ g, m ≤ g → ¬ S g) : ArgAb m w' A ll := fun hn => by
  obtain ⟨b, o, hA, hm, hb, hc⟩ := h hn
  refine ⟨b, o, hA, hm, Nat.lt_of_lt_of_le hb C.size, fun i hi => ?_⟩
  obtain ⟨A', c', h1, h2⟩ := hc i hi
  refine ⟨A', c', (World.cell?_of_block (C.block b hb (hS b hm))).trans h1, fun h0 => ?_⟩
  obtain ⟨b', o', e, hm', hb', hk⟩ := h2 h0
  exact ⟨b', o', e, hm', Nat.lt_of_lt_of_le hb' C.size, fun k hk' => (hk k hk').chg C hb' (hS b' hm')⟩
theorem LLr.ab {w0 w : World} {v : Value} {vs : List Value} {ll : List (List Sg)} (h : LLr w0 v vs ll w) : ∃ A c, v = .slice A ll.length c ∧ ArgAb w0.heap.size w A ll := by
  rcases h.row.2 with ⟨hv, h0⟩ | ⟨g, cap, cur, hv, hr⟩
  · exact ⟨none, 0, by rw [hv, h0], fun h => by omega⟩
  · have hlt : g < w.heap.size := Blk.lt (t := 30) hr.2.1
    refine ⟨_, _, hv, fun _ => ⟨g, 0, rfl, h.own g (by rw [hv]; rfl), hlt, fun i hi => ?_⟩⟩
    obtain ⟨A', c', e1, _⟩ := own_slice (h.inn i hi)
    have hr' := h.inn i hi
    have hw := h.inw i hi
    rw [e1] at hr' hw
    have hc := World.ownsRow.cells h.row (g := g) (by rw [hv]; rfl) i (.slice A' (ll.getD i []).length c') (by
      have : i < vs.length := by rw [h.len]; exact hi
      rw [← e1, List.getD_eq_getElem?_getD, List.getElem?_eq_getElem this]; rfl)
    rw [Addr.add_mid] at hc
    refine ⟨_, _, hc, fun h0 => ?_⟩
    obtain ⟨b', o', e2, hb', hk⟩ := own_args hr' h0
    subst e2
    exact ⟨b', o', rfl, hw b' rfl, hb', hk⟩
/-- What the reference's loop keeps. -/
structure RI (w : World) (eps : Int) (K : List Int) (A : Option Addr) (c : Nat) (K' : List Int) (n : Nat) (v : Value) (vs : List Value) (ll : List (List Sg)) (wr : World) : Prop where
  arg : ArgU wr A K'
  ok : U64s K'
  up : K'.Pairwise (· < ·)
  cap : K'.length ≤ c
  lls : LLr w v vs ll wr
  eq : buildL eps K = ll ++ (if 0 < n then buildL eps K' else [])
  cnt : ll.length + n ≤ K.length
  num : n = K'.length ∨ n + 1 = K'.length
  len : K'.length ≤ 4294967296
end Go.Proofs.Ytnccgpdniigekaa
