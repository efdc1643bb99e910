/-
  Plain: a chain of points, a point laid behind it, and the point of it that a later one is steepest from.
-/
import Derived.Test.YtanhhgifcolfaaaHuGeo
namespace Go.Proofs.Ytanhhgifcolfaaa
set_option linter.unusedVariables false
set_option linter.unusedSimpArgs false

/-- The chain, newest point first, without the points that a new one p makes idle. -/
def popR (b : Int) (p : Pt) : List Pt → List Pt
  | q :: a :: r => if 0 ≤ b * turnV a q p then popR b p (a :: r) else q :: a :: r
  | c => c
theorem popR_short {b : Int} {p : Pt} : ∀ {c : List Pt}, c.length ≤ 1 → popR b p c = c
  | [], _ => rfl
  | [q], _ => rfl
  | q :: a :: r, h => absurd h (by simp)
theorem popR_drop {b : Int} {p q a : Pt} {r : List Pt} (h : 0 ≤ b * turnV a q p) : popR b p (q :: a :: r) = popR b p (a :: r) := by rw [popR, if_pos h]
theorem popR_stop {b : Int} {p q a : Pt} {r : List Pt} (h : ¬ 0 ≤ b * turnV a q p) : popR b p (q :: a :: r) = q :: a :: r := by rw [popR, if_neg h]
theorem popR_ne {b : Int} {p : Pt} : ∀ {c : List Pt}, c ≠ [] → popR b p c ≠ []
  | [], h => absurd rfl h
  | [q], _ => by rw [popR_short (by simp)]; simp
  | q :: a :: r, _ => by
    rw [popR]; split
    · exact popR_ne (by simp)
    · simp
theorem popR_suffix {b : Int} {p : Pt} : ∀ (c : List Pt), popR b p c <:+ c
  | [] => List.suffix_refl _
  | [q] => by rw [popR_short (by simp)]; exact List.suffix_refl _
  | q :: a :: r => by
    rw [popR]; split
    · exact (popR_suffix (a :: r)).trans (List.suffix_cons _ _)
    · exact List.suffix_refl _
/-- It bends one way. -/
def BentR (b : Int) : List Pt → Prop
  | r :: q :: a :: t => b * turnV a q r < 0 ∧ BentR b (q :: a :: t)
  | _ => True
theorem BentR.tail {b : Int} {q : Pt} : ∀ {c : List Pt}, BentR b (q :: c) → BentR b c
  | [], _ => trivial
  | [a], _ => trivial
  | a :: d :: t, h => h.2
theorem BentR.pop {b : Int} {p : Pt} : ∀ {c : List Pt}, BentR b c → BentR b (p :: popR b p c)
  | [], _ => trivial
  | [q], _ => trivial
  | q :: a :: r, h => by
    rw [popR]; split
    · exact BentR.pop h.tail
    · rename_i hn; exact ⟨by omega, h⟩

/-- The chain of a side (b: 1 or -1): made of points of P, falling in x, bent, and no point of P is better from a later one. -/
structure Chain (b : Int) (P c : List Pt) : Prop where
  xs : c.Pairwise (fun u v => v.1 < u.1)
  sub : ∀ u ∈ c, u ∈ P
  bent : BentR b c
  top : ∀ h ∈ c.head?, ∀ u ∈ P, u.1 ≤ h.1
  dom : ∀ q ∈ P, ∀ h ∈ c.head?, ∀ z : Pt, h.1 < z.1 → ∃ u ∈ c, b * steepV q u z ≤ 0
  ne : P ≠ [] → c ≠ []
theorem Chain.nil (b : Int) : Chain b [] [] := ⟨List.Pairwise.nil, fun _ h => h, trivial, fun h hh => by simp at hh, fun q h => absurd h (by simp), fun h => absurd rfl h⟩
theorem Chain.one (b : Int) (p : Pt) : Chain b [p] [p] :=
  ⟨List.pairwise_singleton _ _, fun _ h => h, trivial, fun h hh u hu => by simp at hh hu; subst hh hu; exact Int.le_refl _,
    fun q hq h hh z hz => ⟨p, by simp, by simp at hq; subst hq; unfold steepV; grind⟩, fun _ => by simp⟩
theorem pop_dom {b : Int} {P : List Pt} {p : Pt} : ∀ (c : List Pt), c.Pairwise (fun u v => v.1 < u.1) → (∀ u ∈ c, u.1 < p.1) → (∀ q ∈ P, q.1 < p.1) →
    (∀ q ∈ P, ∀ z : Pt, p.1 < z.1 → ∃ u ∈ p :: c, b * steepV q u z ≤ 0) → (∀ q ∈ P, ∀ z : Pt, p.1 < z.1 → ∃ u ∈ p :: popR b p c, b * steepV q u z ≤ 0)
  | [], _, _, _, h => h
  | [q], _, _, _, h => h
  | v :: a :: r, hx, hp, hP, h => by
    rw [popR]; split
    · rename_i ht
      have hx2 := (List.pairwise_cons.1 hx).2
      refine pop_dom (a :: r) hx2 (fun u hu => hp u (List.mem_cons_of_mem _ hu)) hP (fun q hq z hz => ?_)
      obtain ⟨u, hu, hs⟩ := h q hq z hz
      have hva : a.1 < v.1 := (List.pairwise_cons.1 hx).1 a (by simp)
      have hvp := hp v (by simp)
      have hap := hp a (by simp)
      have hqp := hP q hq
      rcases List.mem_cons.1 hu with rfl | hu
      · exact ⟨u, by simp, hs⟩
      · rcases List.mem_cons.1 hu with rfl | hu
        · rcases drop_ok hva hvp hz ht with h1 | h1
          · exact ⟨a, by simp, steep_trans (by omega) (by omega) (by omega) hs h1⟩
          · exact ⟨p, by simp, steep_trans (by omega) (by omega) (by omega) hs h1⟩
        · exact ⟨u, List.mem_cons_of_mem _ hu, hs⟩
    · exact h
/-- A point laid behind. -/
theorem Chain.lay {b : Int} {P c : List Pt} (h : Chain b P c) {p : Pt} (hp : ∀ q ∈ P, q.1 < p.1) : Chain b (p :: P) (p :: popR b p c) := by
  have hsf := popR_suffix (b := b) (p := p) c
  have hsub : ∀ u ∈ popR b p c, u ∈ c := fun u hu => hsf.subset hu
  refine ⟨List.pairwise_cons.2 ⟨fun u hu => hp u (h.sub u (hsub u hu)), h.xs.sublist hsf.sublist⟩, fun u hu => ?_, BentR.pop h.bent, fun t ht u hu => ?_, fun q hq t ht z hz => ?_, fun _ => by simp⟩
  · rcases List.mem_cons.1 hu with rfl | hu
    · simp
    · exact List.mem_cons_of_mem _ (h.sub u (hsub u hu))
  · obtain rfl : p = t := by simpa using ht
    rcases List.mem_cons.1 hu with rfl | hu
    · exact Int.le_refl _
    · have := hp u hu; omega
  · obtain rfl : p = t := by simpa using ht
    rcases List.mem_cons.1 hq with rfl | hq
    · exact ⟨q, by simp, by unfold steepV; grind⟩
    · refine pop_dom c h.xs (fun u hu => hp u (h.sub u hu)) hp (fun q hq z hz => ?_) q hq z hz
      have hne := h.ne (List.ne_nil_of_mem hq)
      obtain ⟨t, r, rfl⟩ := List.exists_cons_of_ne_nil hne
      have htp := hp t (h.sub t (by simp))
      obtain ⟨u, hu, hs⟩ := h.dom q hq t (by simp) z (by omega)
      exact ⟨u, List.mem_cons_of_mem _ hu, hs⟩

/-- Places of a chain that lies oldest first: three in a row bend. -/
theorem BentR.at {b : Int} : ∀ {c : List Pt}, BentR b c → ∀ i (h : i + 2 < c.length), b * turnV c[i + 2] c[i + 1] c[i] < 0
  | r :: q :: a :: t, h, 0, _ => h.1
  | r :: q :: a :: t, h, i + 1, hi => BentR.at h.2 i (by simpa using hi)
  | [], _, i, h => absurd h (by simp)
  | [_], _, i, h => absurd h (by simp)
  | [_, _], _, i, h => absurd h (by simp)

/-- Where the search stops, is the best. (d: the chain, oldest first.) -/
theorem search_best {b : Int} {d : List Pt} {p : Pt} (hx : d.Pairwise (fun u v => u.1 < v.1)) (hp : ∀ u ∈ d, u.1 < p.1) (hb : ∀ i (h : i + 2 < d.length), b * turnV d[i] d[i + 1] d[i + 2] < 0)
    {i : Nat} (hi : i < d.length) (h0 : i = 0 ∨ ∃ h : i - 1 + 1 < d.length, ¬ 0 ≤ b * steepV d[i - 1] d[i - 1 + 1] p) (h1 : i + 1 = d.length ∨ ∃ h : i + 1 < d.length, 0 ≤ b * steepV d[i] d[i + 1] p) :
    ∀ u ∈ d, b * steepV u d[i] p ≤ 0 := by
  have hxs : ∀ j k (hjk : j < k) (hk : k < d.length), (d[j]'(by omega)).1 < d[k].1 := fun j k hjk hk => List.pairwise_iff_getElem.1 hx j k (by omega) hk hjk
  have hps : ∀ j (hj : j < d.length), d[j].1 < p.1 := fun j hj => hp _ (List.getElem_mem _)
  have mono : ∀ j (hj : j + 2 < d.length), 0 ≤ b * steepV d[j] d[j + 1] p → 0 ≤ b * steepV d[j + 1] d[j + 2] p := fun j hj h =>
    bend_ok (hxs j (j + 1) (by omega) (by omega)) (hxs (j + 1) (j + 2) (by omega) (by omega)) (hps _ _) (hb j hj) h
  -- from place i on it goes on
  have up : ∀ n (hn : i + n + 1 < d.length), 0 ≤ b * steepV d[i + n] d[i + n + 1] p := by
    intro n
    induction n with
    | zero => intro hn; rcases h1 with h1 | ⟨h, h1⟩; · omega
              · exact h1
    | succ n ih => intro hn; exact mono (i + n) (by omega) (ih (by omega))
  have down : ∀ n (hn : n + 1 ≤ i), ¬ 0 ≤ b * steepV (d[i - (n + 1)]'(by omega)) (d[i - (n + 1) + 1]'(by omega)) p := by
    intro n
    induction n with
    | zero => intro hn; rcases h0 with h0 | ⟨h, h0⟩; · omega
              · exact h0
    | succ n ih =>
      intro hn hc
      have hm := mono (i - (n + 1 + 1)) (by omega) hc
      refine ih (by omega) ?_
      have e1 : i - (n + 1 + 1) + 1 = i - (n + 1) := by omega
      have e2 : i - (n + 1 + 1) + 2 = i - (n + 1) + 1 := by omega
      simpa only [e1, e2] using hm
  intro u hu
  obtain ⟨j, hj, rfl⟩ := List.mem_iff_getElem.1 hu
  rcases Nat.lt_trichotomy j i with hlt | rfl | hgt
  · -- below: the ways get better up to i
    have : ∀ n (hn : n ≤ i), b * steepV (d[i - n]'(by omega)) d[i] p ≤ 0 := by
      intro n
      induction n with
      | zero => intro _; simp only [Nat.sub_zero]; unfold steepV; grind
      | succ n ih =>
        intro hn
        have h2 := down n hn
        have e1 : i - (n + 1) + 1 = i - n := by omega
        simp only [e1] at h2
        exact steep_trans (hps _ _) (hps _ _) (hps _ _) (by omega) (ih (by omega))
    have h3 := this (i - j) (by omega)
    have e : i - (i - j) = j := by omega
    simpa only [e] using h3
  · unfold steepV; grind
  · have : ∀ n (hn : i + n < d.length), b * steepV d[i + n] d[i] p ≤ 0 := by
      intro n
      induction n with
      | zero => intro _; simp only [Nat.add_zero]; unfold steepV; grind
      | succ n ih =>
        intro hn
        have h2 := up n hn
        rw [steep_anti] at h2
        have h4 : b * steepV d[i + n + 1] d[i + n] p ≤ 0 := by grind
        exact steep_trans (hps _ _) (hps _ _) (hps _ _) h4 (ih (by omega))
    have h3 := this (j - i) (by omega)
    have e : i + (j - i) = j := by omega
    simpa only [e] using h3
end Go.Proofs.Ytanhhgifcolfaaa
