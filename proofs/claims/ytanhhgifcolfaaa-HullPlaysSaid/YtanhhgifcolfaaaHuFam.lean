/-
  Some pairs side by side, and the slice that holds them.
-/
import Derived.Test.YtanhhgifcolfaaaHuPick
namespace Go.Proofs.Ytanhhgifcolfaaa
open Go.RowKit
set_option linter.unusedVariables false
set_option linter.unusedSimpArgs false

/-- A pair of which both hold the same: blocks, eps less one, what it holds. -/
structure Two where
  b1 : Nat
  b2 : Nat
  e : Int
  F : Fit
def PairS (w : World) (x : Two) (S : Nat → Prop) : Prop :=
  ∃ S1 T1, FitO w x.b1 x.e x.F S1 ∧ RefO w x.b2 x.e x.F T1 ∧ (∀ k, S1 k → ¬ T1 k) ∧ S = fun k => S1 k ∨ T1 k
section
variable {w0 w w' w1 : World} {x y : Two} {S S' T : Nat → Prop}
theorem PairS.lt (h : PairS w x S) : ∀ k, S k → k < w.heap.size := by
  obtain ⟨S1, T1, h1, h2, h3, rfl⟩ := h
  rintro k (m | m)
  · exact h1.lt k m
  · exact h2.lt k m
theorem PairS.chg (h : PairS w x S) (k : Chg T w w') (hd : ∀ i, S i → ¬ T i) : PairS w' x S := by
  obtain ⟨S1, T1, h1, h2, h3, rfl⟩ := h
  exact ⟨S1, T1, h1.chg k (fun i hi => hd i (.inl hi)), h2.chg k (fun i hi => hd i (.inr hi)), h3, rfl⟩
theorem PairS.below (h : PairS w x S) (k : Below w.heap.size w w') : PairS w' x S := h.chg (Chg.of_below k) (fun _ _ h => h)
theorem PairS.two (h : PairS w x S) (hn : ∀ k, S k → w0.heap.size ≤ k) (hb : Below w0.heap.size w0 w) : Pair2 w0 x.b1 x.b2 x.e x.F x.F w := by
  obtain ⟨S1, T1, h1, h2, h3, rfl⟩ := h
  exact ⟨S1, T1, h1, h2, h3, fun k hk => hn k (.inl hk), fun k hk => hn k (.inr hk), hb⟩
theorem PairS.big (h : PairS w x S) : x.F.keys.length ≤ 17592186044416 := by
  obtain ⟨S1, T1, h1, h2, h3, rfl⟩ := h
  obtain ⟨c0, c1, q⟩ := h1.s
  exact q.big
theorem Pair2.pairS {b1 b2 : Nat} {e : Int} {F : Fit} (h : Pair2 w b1 b2 e F F w') : ∃ S, PairS w' ⟨b1, b2, e, F⟩ S ∧ (∀ k, S k → w.heap.size ≤ k) ∧ Below w.heap.size w w' := by
  obtain ⟨S1, T1, h1, h2, h3, h4, h5, h6⟩ := h
  exact ⟨_, ⟨S1, T1, h1, h2, h3, rfl⟩, fun k hk => hk.elim (h4 k) (h5 k), h6⟩
/-- The program's clone and the reference's make a new pair. -/
theorem clones_pair {S1 T1 : Nat → Prop} {b1 b2 : Nat} {e : Int} {F : Fit} (h1 : FitO w1 b1 e F S1) (n1 : ∀ k, S1 k → w.heap.size ≤ k) (B1 : Below w.heap.size w w1) (h2 : RefO w' b2 e F T1) (n2 : ∀ k, T1 k → w1.heap.size ≤ k) (B2 : Below w1.heap.size w1 w') :
    ∃ S, PairS w' ⟨b1, b2, e, F⟩ S ∧ (∀ k, S k → w.heap.size ≤ k) ∧ Below w.heap.size w w' :=
  ⟨_, ⟨S1, T1, h1.below B2, h2, fun k a b => by have := h1.lt k a; have := n2 k b; omega, rfl⟩, fun k hk => hk.elim (n1 k) (fun h => Nat.le_trans B1.size (n2 k h)), below_next B1 B2⟩
/-- A key for both. -/
theorem PairS.add1 (h : PairS w x S) {key : Int} (hk : u64ok key) (big : x.F.keys.length < 17592186044416) :
    Calls Try.prog 17 #[.pointer (some ⟨x.b1, 0, none⟩), .int .u64 key] w fun e' w' => e' = .returned (.tuple #[.bool (x.F.add x.e key).1.1, .int .i64 (x.F.add x.e key).1.2]) ∧
      ∃ S1 T1, FitO w' x.b1 x.e (x.F.add x.e key).2 S1 ∧ RefO w' x.b2 x.e x.F T1 ∧ (∀ k, S1 k → ¬ T1 k) ∧ Chg S w w' ∧ (∀ k, S1 k ∨ T1 k → S k ∨ w.heap.size ≤ k) := by
  obtain ⟨S1, T1, h1, h2, h3, rfl⟩ := h
  have l2 := h2.lt
  refine (hull_AddO key hk big h1).mono ?_
  rintro e' w' ⟨rfl, S', f1, f2, f3⟩
  refine ⟨rfl, S', T1, f1, h2.chg f2 (fun i hi hs => h3 i hs hi), fun k a b => ?_, f2.mono (fun k _ hk => .inl hk), fun k hk => ?_⟩
  · rcases f3 k a with m | m
    · exact h3 k m b
    · have := l2 k b; omega
  · rcases hk with a | a
    · exact (f3 k a).imp .inl id
    · exact .inl (.inr a)
theorem add2_pair {S1 T1 : Nat → Prop} {key : Int} (h1 : FitO w1 x.b1 x.e (x.F.add x.e key).2 S1) (h2 : RefO w1 x.b2 x.e x.F T1) (h3 : ∀ k, S1 k → ¬ T1 k) (hc : Chg S w w1) (hn : ∀ k, S1 k ∨ T1 k → S k ∨ w.heap.size ≤ k) (hk : u64ok key) (big : x.F.keys.length < 17592186044416) :
    Calls Try.prog 18 #[.pointer (some ⟨x.b2, 0, none⟩), .int .u64 key] w1 fun e' w' => e' = .returned (.tuple #[.bool (x.F.add x.e key).1.1, .int .i64 (x.F.add x.e key).1.2]) ∧
      ∃ S', PairS w' ⟨x.b1, x.b2, x.e, (x.F.add x.e key).2⟩ S' ∧ Chg S w w' ∧ (∀ k, S' k → S k ∨ w.heap.size ≤ k) := by
  have l1 := h1.lt
  refine (ref_AddO key hk big h2).mono ?_
  rintro e' w' ⟨rfl, T', f1, f2, f3⟩
  have hs := hc.size
  refine ⟨rfl, _, ⟨S1, T', h1.chg f2 (fun i hi ht => h3 i hi ht), f1, fun k a b => ?_, rfl⟩, hc.trans f2 (fun k hk ht => ?_), fun k hk => ?_⟩
  · rcases f3 k b with m | m
    · exact h3 k a m
    · have := l1 k a; omega
  · rcases hn k (.inr ht) with m | m
    · exact m
    · omega
  · rcases hk with a | a
    · exact hn k (.inl a)
    · rcases f3 k a with m | m
      · exact hn k (.inr m)
      · exact .inr (by omega)
end
/-- The cells of the slice. -/
def tcells (x : Two) : List Value := [.pointer (some ⟨x.b1, 0, none⟩), .pointer (some ⟨x.b2, 0, none⟩)]
def tflat (l : List Two) : List Value := l.flatMap tcells
theorem length_tflat (l : List Two) : (tflat l).length = l.length * 2 := by
  induction l with
  | nil => rfl
  | cons a r ih => simp only [tflat, List.flatMap_cons, List.length_append] at ih ⊢; rw [ih]; simp [tcells]; omega
theorem tflat_append (a b : List Two) : tflat (a ++ b) = tflat a ++ tflat b := by simp [tflat]
theorem tflat_one (l : List Two) : ∀ u ∈ tflat l, u.oneCell' = true := by
  intro u hu
  obtain ⟨x, _, hx⟩ := List.mem_flatMap.1 hu
  simp [tcells] at hx
  rcases hx with rfl | rfl <;> rfl
theorem tflat_set {l : List Two} {i : Nat} {x y : Two} (h : l[i]? = some x) (h1 : y.b1 = x.b1) (h2 : y.b2 = x.b2) : tflat (l.set i y) = tflat l := by
  induction l generalizing i with
  | nil => rfl
  | cons a r ih =>
    cases i with
    | zero =>
      simp only [List.getElem?_cons_zero, Option.some.injEq] at h
      subst h
      simp [tflat, tcells, h1, h2]
    | succ i =>
      have := ih (i := i) (by simpa using h)
      simp only [tflat, List.set_cons_succ, List.flatMap_cons] at this ⊢
      rw [this]
structure Fam (w0 : World) (l : List Two) (S : Nat → Nat → Prop) (v : Value) (w : World) : Prop where
  ent : ∀ (i : Nat) x, l[i]? = some x → PairS w x (S i)
  sep : ∀ i j : Nat, i < l.length → j < l.length → i ≠ j → ∀ k, S i k → ¬ S j k
  new : ∀ i : Nat, i < l.length → ∀ k, S i k → w0.heap.size ≤ k
  row : w.ownsRow 0 27 2 v l.length (tflat l)
  vnew : ∀ g, v.ownBlock = some g → w0.heap.size ≤ g
  vsep : ∀ g, v.ownBlock = some g → ∀ i : Nat, i < l.length → ¬ S i g
  bel : Below w0.heap.size w0 w
section
variable {w0 w w' w1 : World} {l : List Two} {S : Nat → Nat → Prop} {v : Value}
theorem Fam.below (h : Fam w0 l S v w) (k : Below w.heap.size w w') : Fam w0 l S v w' :=
  ⟨fun i x hx => (h.ent i x hx).below k, h.sep, h.new, own_chg h.row (Chg.of_below k) (fun _ _ h => h), h.vnew, h.vsep, below_next h.bel k⟩
theorem Fam.two (h : Fam w0 l S v w) {i : Nat} {x : Two} (hx : l[i]? = some x) : Pair2 w0 x.b1 x.b2 x.e x.F x.F w := by
  have hi := (List.getElem?_eq_some_iff.1 hx).1
  exact (h.ent i x hx).two (h.new i hi) h.bel
/-- One of them has turned. -/
theorem Fam.turn (h : Fam w0 l S v w) {i : Nat} {x y : Two} (hx : l[i]? = some x) {S' : Nat → Prop} (hp : PairS w' y S') (h1 : y.b1 = x.b1) (h2 : y.b2 = x.b2) (hc : Chg (S i) w w') (hn : ∀ k, S' k → S i k ∨ w.heap.size ≤ k) :
    Fam w0 (l.set i y) (fun j => if j = i then S' else S j) v w' := by
  obtain ⟨hi, _⟩ := List.getElem?_eq_some_iff.1 hx
  have hz := h.bel.size
  have hlt : ∀ j (hj : j < l.length), ∀ k, S j k → k < w.heap.size := fun j hj => (h.ent j l[j] (List.getElem?_eq_getElem hj)).lt
  refine ⟨fun j z hz => ?_, fun a b ha hb hab k => ?_, fun a ha k => ?_, ?_, h.vnew, fun g hg a ha => ?_, below_chg h.bel hc (fun k _ hk => h.new i hi k hk) hz⟩
  · by_cases hji : j = i
    · subst hji
      rw [List.getElem?_set_self hi] at hz
      simp only [Option.some.injEq] at hz
      subst hz
      simpa using hp
    · rw [List.getElem?_set_ne (by omega)] at hz
      simp only [if_neg hji]
      have hj := (List.getElem?_eq_some_iff.1 hz).1
      exact (h.ent j z hz).chg hc (fun k hk hs => h.sep j i hj hi hji k hk hs)
  · simp only [List.length_set] at ha hb
    try simp only []
    by_cases hai : a = i
    · subst hai
      rw [if_pos rfl, if_neg (by omega)]
      intro hk hk2
      rcases hn k hk with m | m
      · exact h.sep a b ha hb hab k m hk2
      · have := hlt b hb k hk2; omega
    · rw [if_neg hai]
      by_cases hbi : b = i
      · subst hbi
        rw [if_pos rfl]
        intro hk hk2
        rcases hn k hk2 with m | m
        · exact h.sep a b ha hb hab k hk m
        · have := hlt a ha k hk; omega
      · rw [if_neg hbi]; exact h.sep a b ha hb hab k
  · simp only [List.length_set] at ha
    try simp only []
    by_cases hai : a = i
    · subst hai
      rw [if_pos rfl]
      intro hk
      rcases hn k hk with m | m
      · exact h.new a ha k m
      · omega
    · rw [if_neg hai]; exact h.new a ha k
  · rw [List.length_set, tflat_set hx h1 h2]
    exact own_chg h.row hc (fun g hg hs => h.vsep g hg i hi hs)
  · simp only [List.length_set] at ha
    try simp only []
    by_cases hai : a = i
    · subst hai
      rw [if_pos rfl]
      intro hk
      rcases hn g hk with m | m
      · exact h.vsep g hg a ha m
      · have := own_lt h.row hg; omega
    · rw [if_neg hai]; exact h.vsep g hg a ha
/-- One more. -/
theorem Fam.push (h : Fam w0 l S v w) {x : Two} {S' : Nat → Prop} (hp : PairS w x S') (hn : ∀ k, S' k → w0.heap.size ≤ k) (hd : ∀ i : Nat, i < l.length → ∀ k, S' k → ¬ S i k) (hv : ∀ g, v.ownBlock = some g → ¬ S' g)
    {v' : Value} (hown : w1.ownsRow 0 27 2 v' (l.length + 1) (tflat l ++ tcells x)) (hc : Chg (fun k => v.ownBlock = some k) w w1) (hat : ∀ g, v'.ownBlock = some g → v.ownBlock = some g ∨ w.heap.size ≤ g) :
    Fam w0 (l ++ [x]) (fun j => if j = l.length then S' else S j) v' w1 := by
  have hz := h.bel.size
  have hlt : ∀ j (hj : j < l.length), ∀ k, S j k → k < w.heap.size := fun j hj => (h.ent j l[j] (List.getElem?_eq_getElem hj)).lt
  have hlp := hp.lt
  refine ⟨fun j z hj => ?_, fun a b ha hb hab k => ?_, fun a ha k => ?_, ?_, fun g hg => ?_, fun g hg a ha => ?_, below_chg h.bel hc (fun k _ hk => h.vnew k hk) hz⟩
  · by_cases hjl : j = l.length
    · subst hjl
      rw [List.getElem?_append_right (Nat.le_refl _)] at hj
      simp only [Nat.sub_self, List.getElem?_cons_zero, Option.some.injEq] at hj
      subst hj
      simp only [if_true]
      exact hp.chg hc (fun k hk hs => hv k hs hk)
    · have hj2 := (List.getElem?_eq_some_iff.1 hj).1
      rw [List.length_append, List.length_singleton] at hj2
      rw [List.getElem?_append_left (by omega)] at hj
      simp only [if_neg hjl]
      exact (h.ent j z hj).chg hc (fun k hk hs => h.vsep k hs j (by omega) hk)
  · rw [List.length_append, List.length_singleton] at ha hb
    try simp only []
    by_cases hal : a = l.length
    · subst hal
      rw [if_pos rfl, if_neg (by omega)]
      intro hk
      exact hd b (by omega) k hk
    · rw [if_neg hal]
      by_cases hbl : b = l.length
      · subst hbl
        rw [if_pos rfl]
        intro hk hk2
        exact hd a (by omega) k hk2 hk
      · rw [if_neg hbl]; exact h.sep a b (by omega) (by omega) hab k
  · rw [List.length_append, List.length_singleton] at ha
    try simp only []
    by_cases hal : a = l.length
    · rw [if_pos hal]; exact hn k
    · rw [if_neg hal]; exact h.new a (by omega) k
  · rw [tflat_append, List.length_append]
    simpa [tflat] using hown
  · rcases hat g hg with m | m
    · exact h.vnew g m
    · omega
  · rw [List.length_append, List.length_singleton] at ha
    try simp only []
    by_cases hal : a = l.length
    · rw [if_pos hal]
      intro hk
      rcases hat g hg with m | m
      · exact hv g m hk
      · have := hlp g hk; omega
    · rw [if_neg hal]
      intro hk
      rcases hat g hg with m | m
      · exact h.vsep g m a (by omega) hk
      · have := hlt a (by omega) g hk; omega
end
/-- A cell of a row set, whatever its width. -/
theorem own_setW {w : World} {e : TypeId} {s : Nat} {v : Value} {n : Nat} {xs : List Value} {g i : Nat} (h : w.ownsRow 0 e s v n xs) (hg : v.ownBlock = some g) (u : Value) : (w.setCell ⟨g, i, none⟩ u).ownsRow 0 e s v n (xs.set i u) := by
  obtain ⟨h1, h2⟩ := h
  refine ⟨by rw [List.length_set]; exact h1, ?_⟩
  rcases h2 with ⟨rfl, h0⟩ | ⟨g', cap, cur, rfl, hb, hc, q1, q2, q3, q4⟩
  · simp [Value.ownBlock] at hg
  · simp only [Value.ownBlock, Option.some.injEq] at hg
    subst hg
    refine .inr ⟨_, cap, cur.setIfInBounds i u, rfl, hb, Blk.set (t := e) hc i u, q1, q2, by simpa using q3, ?_⟩
    rw [Array.toList_setIfInBounds, ← q4, List.take_set]
theorem tflat_put {l : List Two} {i : Nat} {x : Two} (h : i < l.length) : tflat (l.set i x) = ((tflat l).set (i * 2) (.pointer (some ⟨x.b1, 0, none⟩))).set (i * 2 + 1) (.pointer (some ⟨x.b2, 0, none⟩)) := by
  induction l generalizing i with
  | nil => simp at h
  | cons a r ih =>
    cases i with
    | zero => simp [tflat, tcells]
    | succ i =>
      have := ih (i := i) (by simpa using h)
      simp only [tflat, List.set_cons_succ, List.flatMap_cons] at this ⊢
      rw [this]
      have e1 : (i + 1) * 2 = i * 2 + 2 := by omega
      rw [e1]
      simp [tcells]
/-- One of them put anew. -/
theorem Fam.put {w0 w : World} {l : List Two} {S : Nat → Nat → Prop} {g n c : Nat} (h : Fam w0 l S (.slice (some ⟨g, 0, none⟩) n c) w) {i : Nat} (hi : i < l.length) {x : Two} {S' : Nat → Prop} (hp : PairS w x S') (hn : ∀ k, S' k → w0.heap.size ≤ k) (hd : ∀ i : Nat, i < l.length → ∀ k, S' k → ¬ S i k) (hv : ¬ S' g) :
    Fam w0 (l.set i x) (fun j => if j = i then S' else S j) (.slice (some ⟨g, 0, none⟩) n c) ((w.setCell ⟨g, i * 2, none⟩ (.pointer (some ⟨x.b1, 0, none⟩))).setCell ⟨g, i * 2 + 1, none⟩ (.pointer (some ⟨x.b2, 0, none⟩))) := by
  have hc : Chg (fun k => k = g) w ((w.setCell ⟨g, i * 2, none⟩ (.pointer (some ⟨x.b1, 0, none⟩))).setCell ⟨g, i * 2 + 1, none⟩ (.pointer (some ⟨x.b2, 0, none⟩))) := ((Chg.refl (fun k => k = g) _).setCell (p := ⟨g, i * 2, none⟩) (fun _ => rfl) _).setCell (p := ⟨g, i * 2 + 1, none⟩) (fun _ => rfl) _
  have hg : w0.heap.size ≤ g := h.vnew g rfl
  refine ⟨fun j z hj => ?_, fun a b ha hb hab k => ?_, fun a ha k => ?_, ?_, h.vnew, fun g' hg' a ha => ?_, below_chg h.bel hc (fun k _ hk => by omega) h.bel.size⟩
  · by_cases hji : j = i
    · subst hji
      rw [List.getElem?_set_self hi] at hj
      simp only [Option.some.injEq] at hj
      subst hj
      simp only [if_true]
      exact hp.chg hc (fun k hk hs => hv (hs ▸ hk))
    · rw [List.getElem?_set_ne (by omega)] at hj
      simp only [if_neg hji]
      exact (h.ent j z hj).chg hc (fun k hk hs => h.vsep g rfl j (List.getElem?_eq_some_iff.1 hj).1 (hs ▸ hk))
  · simp only [List.length_set] at ha hb
    try simp only []
    by_cases hai : a = i
    · subst hai
      rw [if_pos rfl, if_neg (by omega)]
      intro hk
      exact hd b hb k hk
    · rw [if_neg hai]
      by_cases hbi : b = i
      · subst hbi
        rw [if_pos rfl]
        intro hk hk2
        exact hd a ha k hk2 hk
      · rw [if_neg hbi]; exact h.sep a b ha hb hab k
  · simp only [List.length_set] at ha
    try simp only []
    by_cases hai : a = i
    · rw [if_pos hai]; exact hn k
    · rw [if_neg hai]; exact h.new a ha k
  · rw [List.length_set, tflat_put hi]
    exact own_setW (own_setW h.row rfl _) rfl _
  · simp only [List.length_set] at ha
    simp only [Value.ownBlock, Option.some.injEq] at hg'
    subst hg'
    try simp only []
    by_cases hai : a = i
    · rw [if_pos hai]; exact hv
    · rw [if_neg hai]; exact h.vsep g rfl a ha
end Go.Proofs.Ytanhhgifcolfaaa
