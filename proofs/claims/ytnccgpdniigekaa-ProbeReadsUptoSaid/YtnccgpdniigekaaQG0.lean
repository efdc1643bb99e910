/-
  Plain geometry of a chain of points: which point a later one is steepest from; points that are dropped are no loss. No program.
-/
namespace Go.Proofs.Ytnccgpdniigekaa
set_option linter.unusedVariables false
set_option linter.unusedSimpArgs false

/-- A point. -/
abbrev Pt := Int × Int
/-- How the way from a to q stands to the way from a to r. -/
def turnV (a q r : Pt) : Int := (q.2 - a.2) * (r.1 - a.1) - (r.2 - a.2) * (q.1 - a.1)
/-- How the way from a to p stands to the way from q to p. -/
def steepV (a q p : Pt) : Int := (p.2 - a.2) * (p.1 - q.1) - (p.2 - q.2) * (p.1 - a.1)

/-- A point between two others, on their far side: the way from it to a later point is no better than from one of them. -/
theorem drop_ok {b : Int} {a q r p : Pt} (h1 : a.1 < q.1) (h2 : q.1 < r.1) (h3 : r.1 < p.1) (h : 0 ≤ b * turnV a q r) : b * steepV q a p ≤ 0 ∨ b * steepV q r p ≤ 0 := by
  by_cases c1 : b * steepV q a p ≤ 0
  · exact .inl c1
  by_cases c2 : b * steepV q r p ≤ 0
  · exact .inr c2
  exfalso
  obtain ⟨ax, ay⟩ := a; obtain ⟨qx, qy⟩ := q; obtain ⟨rx, ry⟩ := r; obtain ⟨px, py⟩ := p
  simp only [turnV, steepV] at *
  have k1 : 0 < (b * ((py - qy) * (px - ax) - (py - ay) * (px - qx))) * (rx - qx) := Int.mul_pos (by omega) (by omega)
  have k2 : 0 < (b * ((py - qy) * (px - rx) - (py - ry) * (px - qx))) * (qx - ax) := Int.mul_pos (by omega) (by omega)
  have k3 : 0 ≤ (b * ((qy - ay) * (rx - ax) - (ry - ay) * (qx - ax))) * (px - qx) := Int.mul_nonneg h (by omega)
  grind
/-- On a chain that bends, where the way has begun to be worse it goes on to be. -/
theorem bend_ok {b : Int} {a q r p : Pt} (h1 : a.1 < q.1) (h2 : q.1 < r.1) (h3 : r.1 < p.1) (h : b * turnV a q r < 0) (hs : 0 ≤ b * steepV a q p) : 0 ≤ b * steepV q r p := by
  refine Int.not_lt.1 fun c => ?_
  obtain ⟨ax, ay⟩ := a; obtain ⟨qx, qy⟩ := q; obtain ⟨rx, ry⟩ := r; obtain ⟨px, py⟩ := p
  simp only [turnV, steepV] at *
  have k1 : 0 ≤ (b * ((py - ay) * (px - qx) - (py - qy) * (px - ax))) * (rx - qx) := Int.mul_nonneg hs (by omega)
  have k2 : 0 < (-(b * ((py - qy) * (px - rx) - (py - ry) * (px - qx)))) * (qx - ax) := Int.mul_pos (by omega) (by omega)
  have k3 : 0 < (-(b * ((qy - ay) * (rx - ax) - (ry - ay) * (qx - ax)))) * (px - qx) := Int.mul_pos (by omega) (by omega)
  grind
theorem steep_anti (a q p : Pt) : steepV a q p = -steepV q a p := by unfold steepV; grind
/-- Ways to one point are ordered. -/
theorem steep_trans {b : Int} {u v w p : Pt} (hu : u.1 < p.1) (hv : v.1 < p.1) (hw : w.1 < p.1) (h1 : b * steepV u v p ≤ 0) (h2 : b * steepV v w p ≤ 0) : b * steepV u w p ≤ 0 := by
  refine Int.not_lt.1 fun c => ?_
  obtain ⟨ux, uy⟩ := u; obtain ⟨vx, vy⟩ := v; obtain ⟨wx, wy⟩ := w; obtain ⟨px, py⟩ := p
  simp only [steepV] at *
  have k1 : 0 ≤ (-(b * ((py - uy) * (px - vx) - (py - vy) * (px - ux)))) * (px - wx) := Int.mul_nonneg (by omega) (by omega)
  have k2 : 0 ≤ (-(b * ((py - vy) * (px - wx) - (py - wy) * (px - vx)))) * (px - ux) := Int.mul_nonneg (by omega) (by omega)
  have k3 : 0 < (b * ((py - uy) * (px - wx) - (py - wy) * (px - ux))) * (px - vx) := Int.mul_pos c (by omega)
  grind
end Go.Proofs.Ytnccgpdniigekaa
/-
  Plain: a chain of points, a point laid behind it, and the point of it that a later one is steepest from.
-/
namespace Go.Proofs.Ytnccgpdniigekaa
set_option linter.unusedVariables false
set_option linter.unusedSimpArgs false

/-- The chain, newest point first, without the points that a new one p makes idle. -/
def popR (b : Int) (p : Pt) : List Pt → List Pt
  | q :: a :: r => if 0 ≤ b * turnV a q p then popR b p (a :: r) else q :: a :: r
  | c => c
theorem popR_short {b : Int} {p : Pt} : ∀ {c : List Pt}, c.length ≤ 1 → popR b p c = c
  | [], _ => rfl
  | [q], _ => rfl
  | q :: a :: r, h => absurd h (by simp)
theorem popR_drop {b : Int} {p q a : Pt} {r : List Pt} (h : 0 ≤ b * turnV a q p) : popR b p (q :: a :: r) = popR b p (a :: r) := by rw [popR, if_pos h]
theorem popR_stop {b : Int} {p q a : Pt} {r : List Pt} (h : ¬ 0 ≤ b * turnV a q p) : popR b p (q :: a :: r) = q :: a :: r := by rw [popR, if_neg h]
theorem popR_suffix {b : Int} {p : Pt} : ∀ (c : List Pt), popR b p c <:+ c
  | [] => List.suffix_refl _
  | [q] => by rw [popR_short (by simp)]; exact List.suffix_refl _
  | q :: a :: r => by
    rw [popR]; split
    · exact (popR_suffix (a :: r)).trans (List.suffix_cons _ _)
    · exact List.suffix_refl _
/-- It bends one way. -/
def BentR (b : Int) : List Pt → Prop
  | r :: q :: a :: t => b * turnV a q r < 0 ∧ BentR b (q :: a :: t)
  | _ => True
theorem BentR.tail {b : Int} {q : Pt} : ∀ {c : List Pt}, BentR b (q :: c) → BentR b c
  | [], _ => trivial
  | [a], _ => trivial
  | a :: d :: t, h => h.2
theorem BentR.pop {b : Int} {p : Pt} : ∀ {c : List Pt}, BentR b c → BentR b (p :: popR b p c)
  | [], _ => trivial
  | [q], _ => trivial
  | q :: a :: r, h => by
    rw [popR]; split
    · exact BentR.pop h.tail
    · rename_i hn; exact ⟨by omega, h⟩

/-- The chain of a side (b: 1 or -1): made of points of P, falling in x, bent, and no point of P is better from a later one. -/
structure Chain (b : Int) (P c : List Pt) : Prop where
  xs : c.Pairwise (fun u v => v.1 < u.1)
  sub : ∀ u ∈ c, u ∈ P
  bent : BentR b c
  top : ∀ h ∈ c.head?, ∀ u ∈ P, u.1 ≤ h.1
  dom : ∀ q ∈ P, ∀ h ∈ c.head?, ∀ z : Pt, h.1 < z.1 → ∃ u ∈ c, b * steepV q u z ≤ 0
  ne : P ≠ [] → c ≠ []
theorem Chain.nil (b : Int) : Chain b [] [] := ⟨List.Pairwise.nil, fun _ h => h, trivial, fun h hh => by simp at hh, fun q h => absurd h (by simp), fun h => absurd rfl h⟩
theorem Chain.one (b : Int) (p : Pt) : Chain b [p] [p] :=
  ⟨List.pairwise_singleton _ _, fun _ h => h, trivial, fun h hh u hu => by simp at hh hu; subst hh hu; exact Int.le_refl _,
    fun q hq h hh z hz => ⟨p, by simp, by simp at hq; subst hq; unfold steepV; grind⟩, fun _ => by simp⟩
theorem pop_dom {b : Int} {P : List Pt} {p : Pt} : ∀ (c : List Pt), c.Pairwise (fun u v => v.1 < u.1) → (∀ u ∈ c, u.1 < p.1) → (∀ q ∈ P, q.1 < p.1) →
    (∀ q ∈ P, ∀ z : Pt, p.1 < z.1 → ∃ u ∈ p :: c, b * steepV q u z ≤ 0) → (∀ q ∈ P, ∀ z : Pt, p.1 < z.1 → ∃ u ∈ p :: popR b p c, b * steepV q u z ≤ 0)
  | [], _, _, _, h => h
  | [q], _, _, _, h => h
  | v :: a :: r, hx, hp, hP, h => by
    rw [popR]; split
    · rename_i ht
      have hx2 := (List.pairwise_cons.1 hx).2
      refine pop_dom (a :: r) hx2 (fun u hu => hp u (List.mem_cons_of_mem _ hu)) hP (fun q hq z hz => ?_)
      obtain ⟨u, hu, hs⟩ := h q hq z hz
      have hva : a.1 < v.1 := (List.pairwise_cons.1 hx).1 a (by simp)
      have hvp := hp v (by simp)
      have hap := hp a (by simp)
      have hqp := hP q hq
      rcases List.mem_cons.1 hu with rfl | hu
      · exact ⟨u, by simp, hs⟩
      · rcases List.mem_cons.1 hu with rfl | hu
        · rcases drop_ok hva hvp hz ht with h1 | h1
          · exact ⟨a, by simp, steep_trans (by omega) (by omega) (by omega) hs h1⟩
          · exact ⟨p, by simp, steep_trans (by omega) (by omega) (by omega) hs h1⟩
        · exact ⟨u, List.mem_cons_of_mem _ hu, hs⟩
    · exact h
/-- A point laid behind. -/
theorem Chain.lay {b : Int} {P c : List Pt} (h : Chain b P c) {p : Pt} (hp : ∀ q ∈ P, q.1 < p.1) : Chain b (p :: P) (p :: popR b p c) := by
  have hsf := popR_suffix (b := b) (p := p) c
  have hsub : ∀ u ∈ popR b p c, u ∈ c := fun u hu => hsf.subset hu
  refine ⟨List.pairwise_cons.2 ⟨fun u hu => hp u (h.sub u (hsub u hu)), h.xs.sublist hsf.sublist⟩, fun u hu => ?_, BentR.pop h.bent, fun t ht u hu => ?_, fun q hq t ht z hz => ?_, fun _ => by simp⟩
  · rcases List.mem_cons.1 hu with rfl | hu
    · simp
    · exact List.mem_cons_of_mem _ (h.sub u (hsub u hu))
  · obtain rfl : p = t := by simpa using ht
    rcases List.mem_cons.1 hu with rfl | hu
    · exact Int.le_refl _
    · have := hp u hu; omega
  · obtain rfl : p = t := by simpa using ht
    rcases List.mem_cons.1 hq with rfl | hq
    · exact ⟨q, by simp, by unfold steepV; grind⟩
    · refine pop_dom c h.xs (fun u hu => hp u (h.sub u hu)) hp (fun q hq z hz => ?_) q hq z hz
      have hne := h.ne (List.ne_nil_of_mem hq)
      obtain ⟨t, r, rfl⟩ := List.exists_cons_of_ne_nil hne
      have htp := hp t (h.sub t (by simp))
      obtain ⟨u, hu, hs⟩ := h.dom q hq t (by simp) z (by omega)
      exact ⟨u, List.mem_cons_of_mem _ hu, hs⟩

/-- Places of a chain that lies oldest first: three in a row bend. -/
theorem BentR.at {b : Int} : ∀ {c : List Pt}, BentR b c → ∀ i (h : i + 2 < c.length), b * turnV c[i + 2] c[i + 1] c[i] < 0
  | r :: q :: a :: t, h, 0, _ => h.1
  | r :: q :: a :: t, h, i + 1, hi => BentR.at h.2 i (by simpa using hi)
  | [], _, i, h => absurd h (by simp)
  | [_], _, i, h => absurd h (by simp)
  | [_, _], _, i, h => absurd h (by simp)

/-- Where the search stops, is the best. (d: the chain, oldest first.) -/
theorem search_best {b : Int} {d : List Pt} {p : Pt} (hx : d.Pairwise (fun u v => u.1 < v.1)) (hp : ∀ u ∈ d, u.1 < p.1) (hb : ∀ i (h : i + 2 < d.length), b * turnV d[i] d[i + 1] d[i + 2] < 0)
    {i : Nat} (hi : i < d.length) (h0 : i = 0 ∨ ∃ h : i - 1 + 1 < d.length, ¬ 0 ≤ b * steepV d[i - 1] d[i - 1 + 1] p) (h1 : i + 1 = d.length ∨ ∃ h : i + 1 < d.length, 0 ≤ b * steepV d[i] d[i + 1] p) :
    ∀ u ∈ d, b * steepV u d[i] p ≤ 0 := by
  have hxs : ∀ j k (hjk : j < k) (hk : k < d.length), (d[j]'(by omega)).1 < d[k].1 := fun j k hjk hk => List.pairwise_iff_getElem.1 hx j k (by omega) hk hjk
  have hps : ∀ j (hj : j < d.length), d[j].1 < p.1 := fun j hj => hp _ (List.getElem_mem _)
  have mono : ∀ j (hj : j + 2 < d.length), 0 ≤ b * steepV d[j] d[j + 1] p → 0 ≤ b * steepV d[j + 1] d[j + 2] p := fun j hj h =>
    bend_ok (hxs j (j + 1) (by omega) (by omega)) (hxs (j + 1) (j + 2) (by omega) (by omega)) (hps _ _) (hb j hj) h
  -- from place i on it goes on
  have up : ∀ n (hn : i + n + 1 < d.length), 0 ≤ b * steepV d[i + n] d[i + n + 1] p := by
    intro n
    induction n with
    | zero => intro hn; rcases h1 with h1 | ⟨h, h1⟩; · omega
              · exact h1
    | succ n ih => intro hn; exact mono (i + n) (by omega) (ih (by omega))
  have down : ∀ n (hn : n + 1 ≤ i), ¬ 0 ≤ b * steepV (d[i - (n + 1)]'(by omega)) (d[i - (n + 1) + 1]'(by omega)) p := by
    intro n
    induction n with
    | zero => intro hn; rcases h0 with h0 | ⟨h, h0⟩; · omega
              · exact h0
    | succ n ih =>
      intro hn hc
      have hm := mono (i - (n + 1 + 1)) (by omega) hc
      refine ih (by omega) ?_
      have e1 : i - (n + 1 + 1) + 1 = i - (n + 1) := by omega
      have e2 : i - (n + 1 + 1) + 2 = i - (n + 1) + 1 := by omega
      simpa only [e1, e2] using hm
  intro u hu
  obtain ⟨j, hj, rfl⟩ := List.mem_iff_getElem.1 hu
  rcases Nat.lt_trichotomy j i with hlt | rfl | hgt
  · -- below: the ways get better up to i
    have : ∀ n (hn : n ≤ i), b * steepV (d[i - n]'(by omega)) d[i] p ≤ 0 := by
      intro n
      induction n with
      | zero => intro _; simp only [Nat.sub_zero]; unfold steepV; grind
      | succ n ih =>
        intro hn
        have h2 := down n hn
        have e1 : i - (n + 1) + 1 = i - n := by omega
        simp only [e1] at h2
        exact steep_trans (hps _ _) (hps _ _) (hps _ _) (by omega) (ih (by omega))
    have h3 := this (i - j) (by omega)
    have e : i - (i - j) = j := by omega
    simpa only [e] using h3
  · unfold steepV; grind
  · have : ∀ n (hn : i + n < d.length), b * steepV d[i + n] d[i] p ≤ 0 := by
      intro n
      induction n with
      | zero => intro _; simp only [Nat.add_zero]; unfold steepV; grind
      | succ n ih =>
        intro hn
        have h2 := up n hn
        rw [steep_anti] at h2
        have h4 : b * steepV d[i + n + 1] d[i + n] p ≤ 0 := by grind
        exact steep_trans (hps _ _) (hps _ _) (hps _ _) h4 (ih (by omega))
    have h3 := this (j - i) (by omega)
    have e : i + (j - i) = j := by omega
    simpa only [e] using h3
end Go.Proofs.Ytnccgpdniigekaa
/-
  Plain: fractions in lowest terms ({1, 0}: without a bound), their order, the least and the greatest of some.
-/
namespace Go.Proofs.Ytnccgpdniigekaa
set_option linter.unusedVariables false
set_option linter.unusedSimpArgs false

/-- A fraction: numerator, denominator. -/
abbrev Fr := Int × Int
/-- Below. -/
def ltF (a b : Fr) : Prop := a.1 * b.2 < b.1 * a.2
instance (a b : Fr) : Decidable (ltF a b) := by unfold ltF; exact inferInstance
/-- A fraction that is one: no negative part, not both 0. -/
structure OkF (a : Fr) : Prop where
  num : 0 ≤ a.1
  den : 0 ≤ a.2
  some : 0 < a.1 ∨ 0 < a.2
/-- In lowest terms. -/
structure LowF (a : Fr) : Prop where
  ok : OkF a
  cop : Int.gcd a.1 a.2 = 1
theorem ltF_trans' {a b c : Fr} (ha : OkF a) (hb : OkF b) (hc : OkF c) (h1 : ¬ ltF b a) (h2 : ¬ ltF c b) : ¬ ltF c a := by
  unfold ltF at *
  obtain ⟨an, ad⟩ := a; obtain ⟨bn, bd⟩ := b; obtain ⟨cn, cd⟩ := c
  have := ha.num; have := ha.den; have := hb.num; have := hb.den; have := hc.num; have := hc.den
  have hbs := hb.some
  simp only [] at *
  intro h3
  -- an*bd ≤ bn*ad, bn*cd ≤ cn*bd, cn*ad < an*cd
  rcases Int.lt_or_eq_of_le (show 0 ≤ bd by assumption) with hbd | hbd
  · have k1 : 0 ≤ (bn * ad - an * bd) * cd := Int.mul_nonneg (by omega) (by assumption)
    have k2 : 0 ≤ (cn * bd - bn * cd) * ad := Int.mul_nonneg (by omega) (by assumption)
    have k3 : 0 < (an * cd - cn * ad) * bd := Int.mul_pos (by omega) hbd
    grind
  · subst hbd
    have hbn : 0 < bn := by omega
    simp only [Int.mul_zero] at h1 h2
    have k2 : bn * cd ≤ 0 := by omega
    have hcd : cd = 0 := by
      rcases Int.lt_or_eq_of_le (show 0 ≤ cd by assumption) with h | h
      · have := Int.mul_pos hbn h; omega
      · exact h.symm
    subst hcd
    have k4 : 0 ≤ cn * ad := Int.mul_nonneg (by assumption) (by assumption)
    simp at h3; omega
theorem ltF_irrefl (a : Fr) : ¬ ltF a a := by unfold ltF; omega
theorem ltF_asymm {a b : Fr} (h : ltF a b) : ¬ ltF b a := by unfold ltF at *; omega
/-- Two fractions in lowest terms of which none is below the other are the same. -/
theorem LowF.eq {a b : Fr} (ha : LowF a) (hb : LowF b) (h1 : ¬ ltF a b) (h2 : ¬ ltF b a) : a = b := by
  obtain ⟨an, ad⟩ := a; obtain ⟨bn, bd⟩ := b
  unfold ltF at h1 h2
  simp only [] at h1 h2
  have he : an * bd = bn * ad := by omega
  have hca := ha.cop; have hcb := hb.cop
  have n1 := ha.ok.num; have n2 := ha.ok.den; have n3 := hb.ok.num; have n4 := hb.ok.den
  simp only [] at hca hcb n1 n2 n3 n4
  obtain ⟨an, rfl⟩ := Int.eq_ofNat_of_zero_le n1
  obtain ⟨ad, rfl⟩ := Int.eq_ofNat_of_zero_le n2
  obtain ⟨bn, rfl⟩ := Int.eq_ofNat_of_zero_le n3
  obtain ⟨bd, rfl⟩ := Int.eq_ofNat_of_zero_le n4
  rw [Int.gcd_natCast_natCast] at hca hcb
  have hn : an * bd = bn * ad := by exact_mod_cast he
  have d1 : an ∣ bn := Nat.Coprime.dvd_of_dvd_mul_right (show Nat.Coprime an ad from hca) ⟨bd, hn.symm⟩
  have d2 : bn ∣ an := Nat.Coprime.dvd_of_dvd_mul_right (show Nat.Coprime bn bd from hcb) ⟨ad, hn⟩
  have d3 : ad ∣ bd := Nat.Coprime.dvd_of_dvd_mul_left (show Nat.Coprime ad an from (Nat.gcd_comm ad an).trans hca) ⟨bn, by rw [hn, Nat.mul_comm]⟩
  have d4 : bd ∣ ad := Nat.Coprime.dvd_of_dvd_mul_left (show Nat.Coprime bd bn from (Nat.gcd_comm bd bn).trans hcb) ⟨an, by rw [← hn, Nat.mul_comm]⟩
  have e1 := Nat.dvd_antisymm d1 d2
  have e2 := Nat.dvd_antisymm d3 d4
  rw [e1, e2]

/-- Lowest terms. -/
def lowest (n d : Int) : Fr := (n / (Int.gcd n d : Nat), d / (Int.gcd n d : Nat))
theorem lowest_low {n d : Int} (hn : 0 ≤ n) (hd : 0 < d) : LowF (lowest n d) ∧ (lowest n d).1 * d = n * (lowest n d).2 ∧ 0 < (lowest n d).2 ∧ (lowest n d).1 ≤ n ∧ (lowest n d).2 ≤ d ∧ (0 < n → 0 < (lowest n d).1) := by
  have hg : 0 < Int.gcd n d := Int.gcd_pos_of_ne_zero_right _ (by omega)
  obtain ⟨n', hn'⟩ := Int.gcd_dvd_left n d
  obtain ⟨d', hd'⟩ := Int.gcd_dvd_right n d
  have hg' : (0 : Int) < ((Int.gcd n d : Nat) : Int) := by omega
  have e1 : n / ((Int.gcd n d : Nat) : Int) = n' := by
    conv => lhs; lhs; rw [hn']
    exact Int.mul_ediv_cancel_left _ (by omega)
  have e2 : d / ((Int.gcd n d : Nat) : Int) = d' := by
    conv => lhs; lhs; rw [hd']
    exact Int.mul_ediv_cancel_left _ (by omega)
  have hc := Int.gcd_ediv_gcd_ediv_gcd hg
  unfold lowest
  rw [e1, e2] at *
  generalize ((Int.gcd n d : Nat) : Int) = g at *
  have hd'' : 0 < d' := Int.pos_of_mul_pos_right (by rw [← hd']; exact hd) (by omega)
  have hn'' : 0 ≤ n' := by
    refine Int.not_lt.1 fun h => ?_
    have : g * n' < 0 := Int.mul_neg_of_pos_of_neg hg' h
    omega
  refine ⟨⟨⟨hn'', by simp only []; omega, .inr hd''⟩, hc⟩, by simp only []; grind, hd'', ?_, ?_, fun h => ?_⟩
  · have : 1 * n' ≤ g * n' := Int.mul_le_mul_of_nonneg_right (by omega) hn''
    simp only []; omega
  · have : 1 * d' ≤ g * d' := Int.mul_le_mul_of_nonneg_right (by omega) (by omega)
    simp only []; omega
  · rcases Int.lt_or_eq_of_le hn'' with h0 | h0
    · exact h0
    · rw [← h0, Int.mul_zero] at hn'; omega
/-- The order of two fractions in lowest terms is that of what they came from. -/
theorem lowest_lt {a b c d : Int} (ha : 0 ≤ a) (hb : 0 < b) (hc : 0 ≤ c) (hd : 0 < d) : ltF (lowest a b) (lowest c d) ↔ a * d < c * b := by
  obtain ⟨_, e1, p1, _⟩ := lowest_low ha hb
  obtain ⟨_, e2, p2, _⟩ := lowest_low hc hd
  unfold ltF
  generalize (lowest a b).1 = x at *; generalize (lowest a b).2 = y at *; generalize (lowest c d).1 = u at *; generalize (lowest c d).2 = v at *
  -- x*b = a*y, u*d = c*v
  have q1 := Int.mul_pos p1 p2
  have q2 := Int.mul_pos hb hd
  have e : (a * d - c * b) * (y * v) = (x * v - u * y) * (b * d) := by
    have e3 : (a * d - c * b) * (y * v) = (a * y) * (d * v) - (c * v) * (b * y) := by grind
    rw [e3, ← e1, ← e2]
    grind
  constructor
  · intro h
    refine Int.not_le.1 fun h' => ?_
    have k1 : 0 ≤ (a * d - c * b) * (y * v) := Int.mul_nonneg (by omega) (by omega)
    have k2 : 0 < (u * y - x * v) * (b * d) := Int.mul_pos (by omega) q2
    have k3 : (u * y - x * v) * (b * d) = -((x * v - u * y) * (b * d)) := by grind
    omega
  · intro h
    refine Int.not_le.1 fun h' => ?_
    have k1 : 0 < (c * b - a * d) * (y * v) := Int.mul_pos (by omega) q1
    have k2 : 0 ≤ (x * v - u * y) * (b * d) := Int.mul_nonneg (by omega) (by omega)
    have k3 : (c * b - a * d) * (y * v) = -((a * d - c * b) * (y * v)) := by grind
    omega

/-- The greatest of one and some. -/
structure MaxOf (low0 : Fr) (S : Fr → Prop) (r : Fr) : Prop where
  is : r = low0 ∨ S r
  ge : ¬ ltF r low0
  all : ∀ s, S s → ¬ ltF r s
/-- The least of one and some. -/
structure MinOf (top0 : Fr) (S : Fr → Prop) (r : Fr) : Prop where
  is : r = top0 ∨ S r
  le : ¬ ltF top0 r
  all : ∀ s, S s → ¬ ltF s r
theorem MaxOf.not {low0 r r' : Fr} {S : Fr → Prop} (h : MaxOf low0 S r) (h' : MaxOf low0 S r') : ¬ ltF r r' := by
  rcases h'.is with e | e
  · rw [e]; exact h.ge
  · exact h.all _ e
theorem MaxOf.uniq {low0 r r' : Fr} {S : Fr → Prop} (h0 : LowF low0) (hS : ∀ s, S s → LowF s) (h : MaxOf low0 S r) (h' : MaxOf low0 S r') : r = r' :=
  LowF.eq (h.is.elim (fun e => e ▸ h0) (hS r)) (h'.is.elim (fun e => e ▸ h0) (hS r')) (h.not h') (h'.not h)
theorem MinOf.not {top0 r r' : Fr} {S : Fr → Prop} (h : MinOf top0 S r) (h' : MinOf top0 S r') : ¬ ltF r r' := by
  rcases h.is with e | e
  · rw [e]; exact h'.le
  · exact h'.all _ e
theorem MinOf.uniq {top0 r r' : Fr} {S : Fr → Prop} (h0 : LowF top0) (hS : ∀ s, S s → LowF s) (h : MinOf top0 S r) (h' : MinOf top0 S r') : r = r' :=
  LowF.eq (h.is.elim (fun e => e ▸ h0) (hS r)) (h'.is.elim (fun e => e ▸ h0) (hS r')) (h.not h') (h'.not h)
theorem MaxOf.none {low0 : Fr} : MaxOf low0 (fun _ => False) low0 := ⟨.inl rfl, ltF_irrefl _, fun _ h => h.elim⟩
theorem MinOf.none {top0 : Fr} : MinOf top0 (fun _ => False) top0 := ⟨.inl rfl, ltF_irrefl _, fun _ h => h.elim⟩
/-- One more is looked at. -/
theorem MaxOf.step {low0 r s : Fr} {S : Fr → Prop} (h0 : LowF low0) (hS : ∀ s, S s → LowF s) (hs : LowF s) (h : MaxOf low0 S r) : MaxOf low0 (fun x => S x ∨ x = s) (if ltF r s then s else r) := by
  have hr : LowF r := h.is.elim (fun e => e ▸ h0) (hS r)
  split
  · rename_i hlt
    exact ⟨.inr (.inr rfl), ltF_trans' h0.ok hr.ok hs.ok h.ge (ltF_asymm hlt), fun x hx => hx.elim (fun hx => ltF_trans' (hS x hx).ok hr.ok hs.ok (h.all x hx) (ltF_asymm hlt)) (fun hx => hx ▸ ltF_irrefl _)⟩
  · rename_i hlt
    exact ⟨h.is.imp id .inl, h.ge, fun x hx => hx.elim (h.all x) (fun hx => hx ▸ hlt)⟩
theorem MinOf.step {top0 r s : Fr} {S : Fr → Prop} (h0 : LowF top0) (hS : ∀ s, S s → LowF s) (hs : LowF s) (h : MinOf top0 S r) : MinOf top0 (fun x => S x ∨ x = s) (if ltF s r then s else r) := by
  have hr : LowF r := h.is.elim (fun e => e ▸ h0) (hS r)
  split
  · rename_i hlt
    exact ⟨.inr (.inr rfl), ltF_trans' hs.ok hr.ok h0.ok (ltF_asymm hlt) h.le, fun x hx => hx.elim (fun hx => ltF_trans' hs.ok hr.ok (hS x hx).ok (ltF_asymm hlt) (h.all x hx)) (fun hx => hx ▸ ltF_irrefl _)⟩
  · rename_i hlt
    exact ⟨h.is.imp id .inl, h.le, fun x hx => hx.elim (h.all x) (fun hx => hx ▸ hlt)⟩
/-- One that is a best of all, alone. -/
theorem MaxOf.best {low0 s : Fr} {S : Fr → Prop} (h0 : LowF low0) (hS : ∀ s, S s → LowF s) (hs : S s) (hb : ∀ x, S x → ¬ ltF s x) : MaxOf low0 S (if ltF low0 s then s else low0) := by
  split
  · rename_i hlt; exact ⟨.inr hs, ltF_asymm hlt, hb⟩
  · rename_i hlt; exact ⟨.inl rfl, ltF_irrefl _, fun x hx => ltF_trans' (hS x hx).ok (hS s hs).ok h0.ok (hb x hx) hlt⟩
theorem MinOf.best {top0 s : Fr} {S : Fr → Prop} (h0 : LowF top0) (hS : ∀ s, S s → LowF s) (hs : S s) (hb : ∀ x, S x → ¬ ltF x s) : MinOf top0 S (if ltF s top0 then s else top0) := by
  split
  · rename_i hlt; exact ⟨.inr hs, ltF_asymm hlt, hb⟩
  · rename_i hlt; exact ⟨.inl rfl, ltF_irrefl _, fun x hx => ltF_trans' h0.ok (hS s hs).ok (hS x hx).ok hlt (hb x hx)⟩
end Go.Proofs.Ytnccgpdniigekaa
/-
  Plain: what a fit takes and what it answers; the chains give the same slopes as all pairs.
-/
namespace Go.Proofs.Ytnccgpdniigekaa
set_option linter.unusedVariables false
set_option linter.unusedSimpArgs false

/-- One key's say on the least slope, on the greatest one. -/
def stepLow (e n key : Int) (K : List Int) (r : Fr) (i : Nat) : Fr :=
  if 0 < n - i - 2 * e then (if ltF r (lowest (n - i - 2 * e) (key - K.getD i 0)) then lowest (n - i - 2 * e) (key - K.getD i 0) else r) else r
def stepTop (e n key : Int) (K : List Int) (r : Fr) (i : Nat) : Fr :=
  if ltF (lowest (n - i + 2 * e) (key - K.getD i 0)) r then lowest (n - i + 2 * e) (key - K.getD i 0) else r
def lowUp (e n key : Int) (K : List Int) (low : Fr) : Nat → Fr
  | 0 => low
  | i + 1 => stepLow e n key K (lowUp e n key K low i) i
def topUp (e n key : Int) (K : List Int) (top : Fr) : Nat → Fr
  | 0 => top
  | i + 1 => stepTop e n key K (topUp e n key K top i) i
def sLow (e n key : Int) (K : List Int) (m : Nat) (s : Fr) : Prop := ∃ i : Nat, i < m ∧ 0 < n - i - 2 * e ∧ s = lowest (n - i - 2 * e) (key - K.getD i 0)
def sTop (e n key : Int) (K : List Int) (m : Nat) (s : Fr) : Prop := ∃ i : Nat, i < m ∧ s = lowest (n - i + 2 * e) (key - K.getD i 0)
theorem MaxOf.congr {low0 r : Fr} {S T : Fr → Prop} (h : MaxOf low0 S r) (e : ∀ x, T x ↔ S x) : MaxOf low0 T r := ⟨h.is.imp id (e r).2, h.ge, fun x hx => h.all x ((e x).1 hx)⟩
theorem MinOf.congr {low0 r : Fr} {S T : Fr → Prop} (h : MinOf low0 S r) (e : ∀ x, T x ↔ S x) : MinOf low0 T r := ⟨h.is.imp id (e r).2, h.le, fun x hx => h.all x ((e x).1 hx)⟩

section
variable {e n key : Int} {K : List Int}
theorem sLow_low (hk : ∀ i : Nat, i < K.length → K.getD i 0 < key) {m : Nat} (hm : m ≤ K.length) : ∀ s, sLow e n key K m s → LowF s := by
  rintro s ⟨i, hi, hp, rfl⟩
  exact (lowest_low (by omega) (by have := hk i (by omega); omega)).1
theorem sTop_low (he : 0 ≤ e) (hn : ∀ i : Nat, i < K.length → (i : Int) ≤ n) (hk : ∀ i : Nat, i < K.length → K.getD i 0 < key) {m : Nat} (hm : m ≤ K.length) : ∀ s, sTop e n key K m s → LowF s := by
  rintro s ⟨i, hi, rfl⟩
  exact (lowest_low (by have := hn i (by omega); omega) (by have := hk i (by omega); omega)).1
theorem lowUp_max (hk : ∀ i : Nat, i < K.length → K.getD i 0 < key) {low : Fr} (h0 : LowF low) : ∀ m, m ≤ K.length → MaxOf low (sLow e n key K m) (lowUp e n key K low m)
  | 0, _ => MaxOf.none.congr (fun x => ⟨fun ⟨i, hi, _⟩ => by omega, fun h => h.elim⟩)
  | m + 1, hm => by
    have ih := lowUp_max hk h0 m (by omega)
    unfold lowUp stepLow
    by_cases hp : 0 < n - (m : Int) - 2 * e
    · rw [if_pos hp]
      refine (ih.step h0 (sLow_low hk (by omega)) (lowest_low (by omega) (by have := hk m (by omega); omega)).1).congr fun x => ?_
      constructor
      · rintro ⟨i, hi, hpi, rfl⟩
        by_cases him : i = m
        · subst him; exact .inr rfl
        · exact .inl ⟨i, by omega, hpi, rfl⟩
      · rintro (⟨i, hi, hpi, rfl⟩ | rfl)
        · exact ⟨i, by omega, hpi, rfl⟩
        · exact ⟨m, by omega, hp, rfl⟩
    · rw [if_neg hp]
      refine ih.congr fun x => ?_
      constructor
      · rintro ⟨i, hi, hpi, rfl⟩
        by_cases him : i = m
        · subst him; exact absurd hpi hp
        · exact ⟨i, by omega, hpi, rfl⟩
      · rintro ⟨i, hi, hpi, rfl⟩
        exact ⟨i, by omega, hpi, rfl⟩
theorem topUp_min (he : 0 ≤ e) (hn : ∀ i : Nat, i < K.length → (i : Int) ≤ n) (hk : ∀ i : Nat, i < K.length → K.getD i 0 < key) {top : Fr} (h0 : LowF top) : ∀ m, m ≤ K.length → MinOf top (sTop e n key K m) (topUp e n key K top m)
  | 0, _ => MinOf.none.congr (fun x => ⟨fun ⟨i, hi, _⟩ => by omega, fun h => h.elim⟩)
  | m + 1, hm => by
    have ih := topUp_min he hn hk h0 m (by omega)
    unfold topUp stepTop
    refine (ih.step h0 (sTop_low he hn hk (by omega)) (lowest_low (by have := hn m (by omega); omega) (by have := hk m (by omega); omega)).1).congr fun x => ?_
    constructor
    · rintro ⟨i, hi, rfl⟩
      by_cases him : i = m
      · subst him; exact .inr rfl
      · exact .inl ⟨i, by omega, rfl⟩
    · rintro (⟨i, hi, rfl⟩ | rfl)
      · exact ⟨i, by omega, rfl⟩
      · exact ⟨m, by omega, rfl⟩
end

/-- A fit: the keys that were taken, the least slope, the greatest one. -/
structure Fit where
  keys : List Int
  low : Fr
  top : Fr
def Fit.zero : Fit := ⟨[], (0, 1), (1, 0)⟩
def Fit.lowWith (F : Fit) (e key : Int) : Fr := lowUp e F.keys.length key F.keys F.low F.keys.length
def Fit.topWith (F : Fit) (e key : Int) : Fr := topUp e F.keys.length key F.keys F.top F.keys.length
/-- Whether a key is not above the last one. -/
def Fit.late (F : Fit) (key : Int) : Bool := match F.keys.getLast? with
  | some l => decide (key ≤ l)
  | none => false
/-- A key more: was it taken, the error, the fit then. -/
def Fit.add (F : Fit) (e key : Int) : (Bool × Int) × Fit :=
  if F.late key then ((false, 40), F)
  else if ltF (F.topWith e key) (F.lowWith e key) then ((false, 0), F)
  else ((true, 0), ⟨F.keys ++ [key], F.lowWith e key, F.topWith e key⟩)
structure FitOk (F : Fit) : Prop where
  up : F.keys.Pairwise (· < ·)
  low : LowF F.low
  top : LowF F.top
theorem FitOk.zero : FitOk Fit.zero := ⟨List.Pairwise.nil, ⟨⟨by decide, by decide, by decide⟩, by decide⟩, ⟨⟨by decide, by decide, by decide⟩, by decide⟩⟩
theorem FitOk.lt {F : Fit} (h : FitOk F) {key : Int} (hl : F.late key = false) : ∀ i : Nat, i < F.keys.length → F.keys.getD i 0 < key := by
  intro i hi
  unfold Fit.late at hl
  have hne : F.keys ≠ [] := by intro e; rw [e] at hi; simp at hi
  rw [List.getLast?_eq_some_getLast hne] at hl
  simp only [decide_eq_false_iff_not, Int.not_le] at hl
  rw [List.getD_eq_getElem?_getD, List.getElem?_eq_getElem hi, Option.getD_some]
  rw [List.getLast_eq_getElem] at hl
  by_cases hil : i = F.keys.length - 1
  · subst hil; exact hl
  · have := List.pairwise_iff_getElem.1 h.up i (F.keys.length - 1) hi (by omega) (by omega); omega
theorem FitOk.add {F : Fit} (h : FitOk F) {e : Int} (he : 0 ≤ e) (key : Int) : FitOk (F.add e key).2 := by
  unfold Fit.add
  split
  · exact h
  · rename_i hl
    have hl : F.late key = false := by simpa using hl
    have hk := h.lt hl
    split
    · exact h
    · have m1 := lowUp_max (e := e) (n := F.keys.length) hk h.low F.keys.length (Nat.le_refl _)
      have m2 := topUp_min (n := F.keys.length) he (fun i hi => by omega) hk h.top F.keys.length (Nat.le_refl _)
      refine ⟨List.pairwise_append.2 ⟨h.up, List.pairwise_singleton _ _, fun a ha b hb => ?_⟩, m1.is.elim (fun q => by rw [Fit.lowWith, q]; exact h.low) (sLow_low hk (Nat.le_refl _) _), m2.is.elim (fun q => by rw [Fit.topWith, q]; exact h.top) (sTop_low he (fun i hi => by omega) hk (Nat.le_refl _) _)⟩
      obtain rfl : b = key := by simpa using hb
      obtain ⟨i, hi, rfl⟩ := List.mem_iff_getElem.1 ha
      have := hk i hi
      rwa [List.getD_eq_getElem?_getD, List.getElem?_eq_getElem hi, Option.getD_some] at this

/-- The points of a side, newest first: each key with its rank and so much more (d: e, or -e). -/
def pts (d : Int) : Nat → List Int → List Pt
  | _, [] => []
  | i, k :: r => pts d (i + 1) r ++ [(k, i + d)]
theorem pts_mem {d : Int} : ∀ {K : List Int} {i : Nat} {u : Pt}, u ∈ pts d i K ↔ ∃ j : Nat, j < K.length ∧ u = (K.getD j 0, ((i + j : Nat) : Int) + d)
  | [], i, u => by simp [pts]
  | k :: r, i, u => by
    rw [pts, List.mem_append, pts_mem]
    constructor
    · rintro (⟨j, hj, rfl⟩ | h)
      · exact ⟨j + 1, by simpa using hj, by simp; omega⟩
      · exact ⟨0, by simp, by simpa using h⟩
    · rintro ⟨j, hj, rfl⟩
      cases j with
      | zero => exact .inr (by simp)
      | succ j => exact .inl ⟨j, by simpa using hj, by simp; omega⟩
theorem pts_snoc {d : Int} : ∀ {K : List Int} {i : Nat} {k : Int}, pts d i (K ++ [k]) = (k, ((i + K.length : Nat) : Int) + d) :: pts d i K
  | [], i, k => by simp [pts]
  | a :: r, i, k => by
    rw [List.cons_append, pts, pts_snoc, pts]
    simp only [List.cons_append, List.length_cons, List.cons.injEq, Prod.mk.injEq, true_and, and_true]
    omega

/-- The best point of a chain is the best of all points. -/
theorem Chain.best {b : Int} {P c : List Pt} (h : Chain b P c) {p : Pt} (hp : ∀ q ∈ P, q.1 < p.1) {i : Nat} (hi : i < c.reverse.length)
    (h0 : i = 0 ∨ ∃ h : i - 1 + 1 < c.reverse.length, ¬ 0 ≤ b * steepV c.reverse[i - 1] c.reverse[i - 1 + 1] p) (h1 : i + 1 = c.reverse.length ∨ ∃ h : i + 1 < c.reverse.length, 0 ≤ b * steepV c.reverse[i] c.reverse[i + 1] p) :
    c.reverse[i] ∈ P ∧ ∀ q ∈ P, b * steepV q c.reverse[i] p ≤ 0 := by
  have hpc : ∀ u ∈ c, u.1 < p.1 := fun u hu => hp u (h.sub u hu)
  have hm : c.reverse[i] ∈ c := List.mem_reverse.1 (List.getElem_mem hi)
  have hbest := search_best (b := b) (d := c.reverse) (p := p) (List.pairwise_reverse.2 h.xs) (fun u hu => hpc u (List.mem_reverse.1 hu))
    (fun j hj => by
      have hl : c.reverse.length = c.length := List.length_reverse
      simp only [List.getElem_reverse]
      have := h.bent.at (c.length - 1 - (j + 2)) (by omega)
      have e1 : c.length - 1 - (j + 2) + 2 = c.length - 1 - j := by omega
      have e2 : c.length - 1 - (j + 2) + 1 = c.length - 1 - (j + 1) := by omega
      simpa only [e1, e2] using this) hi h0 h1
  refine ⟨h.sub _ hm, fun q hq => ?_⟩
  obtain ⟨t, r, hc⟩ := List.exists_cons_of_ne_nil (h.ne (List.ne_nil_of_mem hq))
  obtain ⟨u, hu, hs⟩ := h.dom q hq t (by rw [hc]; rfl) p (hpc t (by rw [hc]; simp))
  exact steep_trans (hp q hq) (hpc u hu) (hpc _ hm) hs (hbest u (List.mem_reverse.2 hu))

/-- What the program makes of the steepest way from an upper point. -/
def lowBy (low : Fr) (u p : Pt) : Fr := if u.2 < p.2 then (if ltF low (lowest (p.2 - u.2) (p.1 - u.1)) then lowest (p.2 - u.2) (p.1 - u.1) else low) else low
def topBy (top : Fr) (u p : Pt) : Fr := if ltF (lowest (p.2 - u.2) (p.1 - u.1)) top then lowest (p.2 - u.2) (p.1 - u.1) else top
theorem lowBy_eq {F : Fit} (h : FitOk F) {e key : Int} (hl : F.late key = false) {u : Pt} (hu : u ∈ pts e 0 F.keys) (hb : ∀ q ∈ pts e 0 F.keys, steepV q u (key, F.keys.length - e) ≤ 0) :
    lowBy F.low u (key, F.keys.length - e) = F.lowWith e key := by
  have hk := h.lt hl
  have m1 := lowUp_max (e := e) (n := F.keys.length) hk h.low F.keys.length (Nat.le_refl _)
  refine MaxOf.uniq h.low (sLow_low hk (Nat.le_refl _)) ?_ m1
  obtain ⟨j, hj, rfl⟩ := pts_mem.1 hu
  have hkj := hk j hj
  unfold lowBy
  simp only [Nat.zero_add] at hb ⊢
  by_cases hp : (j : Int) + e < F.keys.length - e
  · rw [if_pos hp]
    have e1 : (F.keys.length : Int) - e - (j + e) = F.keys.length - j - 2 * e := by omega
    rw [e1]
    refine MaxOf.best h.low (sLow_low hk (Nat.le_refl _)) ⟨j, hj, by omega, rfl⟩ ?_
    rintro x ⟨i, hi, hpi, rfl⟩
    rw [lowest_lt (by omega) (by omega) (by omega) (by have := hk i hi; omega)]
    have := hb _ (pts_mem.2 ⟨i, hi, rfl⟩)
    simp only [steepV, Nat.zero_add] at this
    grind
  · rw [if_neg hp]
    refine ⟨.inl rfl, ltF_irrefl _, ?_⟩
    rintro x ⟨i, hi, hpi, rfl⟩
    exfalso
    have := hb _ (pts_mem.2 ⟨i, hi, rfl⟩)
    simp only [steepV, Nat.zero_add] at this
    have hki := hk i hi
    have k1 : 0 < ((F.keys.length : Int) - e - (i + e)) * (key - F.keys.getD j 0) := Int.mul_pos (by omega) (by omega)
    have k2 : 0 ≤ (-((F.keys.length : Int) - e - (j + e))) * (key - F.keys.getD i 0) := Int.mul_nonneg (by omega) (by omega)
    grind
theorem topBy_eq {F : Fit} (h : FitOk F) {e key : Int} (he : 0 ≤ e) (hl : F.late key = false) {u : Pt} (hu : u ∈ pts (-e) 0 F.keys) (hb : ∀ q ∈ pts (-e) 0 F.keys, -1 * steepV q u (key, F.keys.length + e) ≤ 0) :
    topBy F.top u (key, F.keys.length + e) = F.topWith e key := by
  have hk := h.lt hl
  have m1 := topUp_min (n := F.keys.length) he (fun i hi => by omega) hk h.top F.keys.length (Nat.le_refl _)
  refine MinOf.uniq h.top (sTop_low he (fun i hi => by omega) hk (Nat.le_refl _)) ?_ m1
  obtain ⟨j, hj, rfl⟩ := pts_mem.1 hu
  have hkj := hk j hj
  unfold topBy
  simp only [Nat.zero_add] at hb ⊢
  have e1 : (F.keys.length : Int) + e - (j + -e) = F.keys.length - j + 2 * e := by omega
  rw [e1]
  refine MinOf.best h.top (sTop_low he (fun i hi => by omega) hk (Nat.le_refl _)) ⟨j, hj, rfl⟩ ?_
  rintro x ⟨i, hi, rfl⟩
  rw [lowest_lt (by omega) (by have := hk i hi; omega) (by omega) (by omega)]
  have := hb _ (pts_mem.2 ⟨i, hi, rfl⟩)
  simp only [steepV, Nat.zero_add] at this
  grind
end Go.Proofs.Ytnccgpdniigekaa
/-
  Plain: the slopes of a fit are those of all pairs of its keys; turned round it has the same.
-/
namespace Go.Proofs.Ytnccgpdniigekaa
set_option linter.unusedVariables false
set_option linter.unusedSimpArgs false

def allLow (e : Int) (K : List Int) (s : Fr) : Prop := ∃ i j : Nat, i < j ∧ j < K.length ∧ 0 < (j : Int) - i - 2 * e ∧ s = lowest (j - i - 2 * e) (K.getD j 0 - K.getD i 0)
def allTop (e : Int) (K : List Int) (s : Fr) : Prop := ∃ i j : Nat, i < j ∧ j < K.length ∧ s = lowest (j - i + 2 * e) (K.getD j 0 - K.getD i 0)
theorem getD_lt {K : List Int} (h : K.Pairwise (· < ·)) {i j : Nat} (hij : i < j) (hj : j < K.length) : K.getD i 0 < K.getD j 0 := by
  have := List.pairwise_iff_getElem.1 h i j (by omega) hj hij
  rwa [List.getD_eq_getElem?_getD, List.getD_eq_getElem?_getD, List.getElem?_eq_getElem hj, List.getElem?_eq_getElem (by omega : i < K.length)]
theorem allLow_low {e : Int} {K : List Int} (h : K.Pairwise (· < ·)) : ∀ s, allLow e K s → LowF s := by
  rintro s ⟨i, j, hij, hj, hp, rfl⟩
  exact (lowest_low (by omega) (by have := getD_lt h hij hj; omega)).1
theorem allTop_low {e : Int} (he : 0 ≤ e) {K : List Int} (h : K.Pairwise (· < ·)) : ∀ s, allTop e K s → LowF s := by
  rintro s ⟨i, j, hij, hj, rfl⟩
  exact (lowest_low (by omega) (by have := getD_lt h hij hj; omega)).1
theorem MaxOf.join {a r r' : Fr} {S T : Fr → Prop} (h0 : LowF a) (hS : ∀ s, S s → LowF s) (hT : ∀ s, T s → LowF s) (h : MaxOf a S r) (k : MaxOf r T r') : MaxOf a (fun x => S x ∨ T x) r' := by
  have hr : LowF r := h.is.elim (fun e => e ▸ h0) (hS r)
  have hr' : LowF r' := k.is.elim (fun e => e ▸ hr) (hT r')
  refine ⟨?_, ltF_trans' h0.ok hr.ok hr'.ok h.ge k.ge, fun s hs => hs.elim (fun hs => ltF_trans' (hS s hs).ok hr.ok hr'.ok (h.all s hs) k.ge) (k.all s)⟩
  rcases k.is with e | e
  · rw [e]; exact h.is.imp id .inl
  · exact .inr (.inr e)
theorem MinOf.join {a r r' : Fr} {S T : Fr → Prop} (h0 : LowF a) (hS : ∀ s, S s → LowF s) (hT : ∀ s, T s → LowF s) (h : MinOf a S r) (k : MinOf r T r') : MinOf a (fun x => S x ∨ T x) r' := by
  have hr : LowF r := h.is.elim (fun e => e ▸ h0) (hS r)
  have hr' : LowF r' := k.is.elim (fun e => e ▸ hr) (hT r')
  refine ⟨?_, ltF_trans' hr'.ok hr.ok h0.ok k.le h.le, fun s hs => hs.elim (fun hs => ltF_trans' hr'.ok hr.ok (hS s hs).ok k.le (h.all s hs)) (k.all s)⟩
  rcases k.is with e | e
  · rw [e]; exact h.is.imp id .inl
  · exact .inr (.inr e)
theorem getD_app {K : List Int} {x : Int} {i : Nat} (h : i < K.length) : (K ++ [x]).getD i 0 = K.getD i 0 := by
  simp [List.getD_eq_getElem?_getD, List.getElem?_append_left h]
theorem getD_end {K : List Int} {x : Int} : (K ++ [x]).getD K.length 0 = x := by simp [List.getD_eq_getElem?_getD]
theorem allLow_snoc {e key : Int} {K : List Int} (x : Fr) : allLow e (K ++ [key]) x ↔ allLow e K x ∨ sLow e K.length key K K.length x := by
  constructor
  · rintro ⟨i, j, hij, hj, hp, rfl⟩
    rw [List.length_append, List.length_singleton] at hj
    by_cases hjn : j = K.length
    · subst hjn; exact .inr ⟨i, hij, hp, by rw [getD_end, getD_app hij]⟩
    · exact .inl ⟨i, j, hij, by omega, hp, by rw [getD_app (by omega), getD_app (by omega)]⟩
  · rintro (⟨i, j, hij, hj, hp, rfl⟩ | ⟨i, hi, hp, rfl⟩)
    · exact ⟨i, j, hij, by rw [List.length_append]; omega, hp, by rw [getD_app (by omega), getD_app (by omega)]⟩
    · exact ⟨i, K.length, hi, by simp, hp, by rw [getD_end, getD_app hi]⟩
theorem allTop_snoc {e key : Int} {K : List Int} (x : Fr) : allTop e (K ++ [key]) x ↔ allTop e K x ∨ sTop e K.length key K K.length x := by
  constructor
  · rintro ⟨i, j, hij, hj, rfl⟩
    rw [List.length_append, List.length_singleton] at hj
    by_cases hjn : j = K.length
    · subst hjn; exact .inr ⟨i, hij, by rw [getD_end, getD_app hij]⟩
    · exact .inl ⟨i, j, hij, by omega, by rw [getD_app (by omega), getD_app (by omega)]⟩
  · rintro (⟨i, j, hij, hj, rfl⟩ | ⟨i, hi, rfl⟩)
    · exact ⟨i, j, hij, by rw [List.length_append]; omega, by rw [getD_app (by omega), getD_app (by omega)]⟩
    · exact ⟨i, K.length, hi, by simp, by rw [getD_end, getD_app hi]⟩

/-- A fit whose slopes are those of all pairs. -/
structure Full (e : Int) (F : Fit) : Prop where
  ok : FitOk F
  low : MaxOf (0, 1) (allLow e F.keys) F.low
  top : MinOf (1, 0) (allTop e F.keys) F.top
  fit : ¬ ltF F.top F.low
theorem Full.zero (e : Int) : Full e Fit.zero :=
  ⟨FitOk.zero, MaxOf.none.congr (fun x => ⟨fun ⟨i, j, h1, h2, _⟩ => by simp [Fit.zero] at h2, fun h => h.elim⟩), MinOf.none.congr (fun x => ⟨fun ⟨i, j, h1, h2, _⟩ => by simp [Fit.zero] at h2, fun h => h.elim⟩), by unfold ltF Fit.zero; decide⟩
theorem Full.lowWith {e : Int} {F : Fit} (h : Full e F) {key : Int} (hl : F.late key = false) : MaxOf (0, 1) (allLow e (F.keys ++ [key])) (F.lowWith e key) := by
  have hk := h.ok.lt hl
  have m1 := lowUp_max (e := e) (n := F.keys.length) hk h.ok.low F.keys.length (Nat.le_refl _)
  exact (h.low.join FitOk.zero.low (allLow_low h.ok.up) (sLow_low hk (Nat.le_refl _)) m1).congr allLow_snoc
theorem Full.topWith {e : Int} (he : 0 ≤ e) {F : Fit} (h : Full e F) {key : Int} (hl : F.late key = false) : MinOf (1, 0) (allTop e (F.keys ++ [key])) (F.topWith e key) := by
  have hk := h.ok.lt hl
  have m1 := topUp_min (n := F.keys.length) he (fun i hi => by omega) hk h.ok.top F.keys.length (Nat.le_refl _)
  exact (h.top.join FitOk.zero.top (allTop_low he h.ok.up) (sTop_low he (fun i hi => by omega) hk (Nat.le_refl _)) m1).congr allTop_snoc
theorem Full.add {e : Int} (he : 0 ≤ e) {F F' : Fit} (h : Full e F) {key c : Int} (ha : F.add e key = ((true, c), F')) : Full e F' := by
  have ok := h.ok.add he key
  unfold Fit.add at ha ok
  split at ha
  · simp at ha
  · rename_i hl
    have hl : F.late key = false := by simpa using hl
    split at ha
    · simp at ha
    · rename_i hlt
      simp only [hl, Bool.false_eq_true, if_false, if_neg hlt] at ok
      simp only [Prod.mk.injEq] at ha
      obtain ⟨_, rfl⟩ := ha
      exact ⟨ok, h.lowWith hl, h.topWith he hl, hlt⟩

/-- Keys turned round. -/
def turned (M : Int) (K : List Int) : List Int := K.reverse.map (M - ·)
theorem turned_cons (M a : Int) (K : List Int) : turned M (a :: K) = turned M K ++ [M - a] := by simp [turned]
theorem turned_len (M : Int) (K : List Int) : (turned M K).length = K.length := by simp [turned]
theorem turned_turned (M : Int) (K : List Int) : turned M (turned M K) = K := by
  unfold turned
  rw [← List.map_reverse, List.map_map, List.reverse_reverse]
  conv => rhs; rw [← List.map_id K]
  exact List.map_congr_left fun a _ => by simp only [Function.comp, id]; omega
theorem turned_getD {M : Int} {K : List Int} {j : Nat} (h : j < K.length) : (turned M K).getD j 0 = M - K.getD (K.length - 1 - j) 0 := by
  unfold turned
  rw [List.getD_eq_getElem?_getD, List.getD_eq_getElem?_getD, List.getElem?_map, List.getElem?_reverse h, List.getElem?_eq_getElem (by omega : K.length - 1 - j < K.length)]
  rfl
theorem turned_up {M : Int} {K : List Int} (h : K.Pairwise (· < ·)) : (turned M K).Pairwise (· < ·) := by
  unfold turned
  rw [List.pairwise_map, List.pairwise_reverse]
  exact h.imp (fun h => by omega)
theorem turned_low {e M : Int} {K : List Int} {s : Fr} (h : allLow e (turned M K) s) : allLow e K s := by
  obtain ⟨i, j, hij, hj, hp, rfl⟩ := h
  rw [turned_len] at hj
  refine ⟨K.length - 1 - j, K.length - 1 - i, by omega, by omega, by omega, ?_⟩
  rw [turned_getD hj, turned_getD (by omega : i < K.length)]
  congr 1 <;> omega
theorem turned_top {e M : Int} {K : List Int} {s : Fr} (h : allTop e (turned M K) s) : allTop e K s := by
  obtain ⟨i, j, hij, hj, rfl⟩ := h
  rw [turned_len] at hj
  refine ⟨K.length - 1 - j, K.length - 1 - i, by omega, by omega, ?_⟩
  rw [turned_getD hj, turned_getD (by omega : i < K.length)]
  congr 1 <;> omega
theorem drop_getD {K : List Int} {d i : Nat} : (K.drop d).getD i 0 = K.getD (d + i) 0 := by
  rw [List.getD_eq_getElem?_getD, List.getD_eq_getElem?_getD, List.getElem?_drop]
theorem drop_low {e : Int} {K : List Int} {d : Nat} {s : Fr} (h : allLow e (K.drop d) s) : allLow e K s := by
  obtain ⟨i, j, hij, hj, hp, rfl⟩ := h
  rw [List.length_drop] at hj
  exact ⟨d + i, d + j, by omega, by omega, by omega, by rw [drop_getD, drop_getD]; congr 1; omega⟩
theorem drop_top {e : Int} {K : List Int} {d : Nat} {s : Fr} (h : allTop e (K.drop d) s) : allTop e K s := by
  obtain ⟨i, j, hij, hj, rfl⟩ := h
  rw [List.length_drop] at hj
  exact ⟨d + i, d + j, by omega, by omega, by rw [drop_getD, drop_getD]; congr 1; omega⟩
/-- A fit over the keys from i on, turned round. -/
structure Turn (e M : Int) (F : Fit) (i : Nat) (G : Fit) : Prop where
  full : Full e G
  keys : G.keys = turned M (F.keys.drop i)
theorem Turn.zero (e M : Int) (F : Fit) : Turn e M F F.keys.length Fit.zero := ⟨Full.zero e, by simp [Fit.zero, turned]⟩
theorem Turn.step {e M : Int} (he : 0 ≤ e) {F G : Fit} {i : Nat} (hF : Full e F) (h : Turn e M F (i + 1) G) (hi : i < F.keys.length) : ∃ G', G.add e (M - F.keys[i]) = ((true, 0), G') ∧ Turn e M F i G' := by
  have hd : F.keys.drop i = F.keys[i] :: F.keys.drop (i + 1) := List.drop_eq_getElem_cons hi
  have hK : G.keys ++ [M - F.keys[i]] = turned M (F.keys.drop i) := by rw [hd, turned_cons, h.keys]
  have hup : (G.keys ++ [M - F.keys[i]]).Pairwise (· < ·) := by
    rw [hK]; exact turned_up (hF.ok.up.sublist (List.drop_sublist _ _))
  have hl : G.late (M - F.keys[i]) = false := by
    unfold Fit.late
    cases hg : G.keys.getLast? with
    | none => rfl
    | some l =>
      have hm := List.mem_of_getLast? hg
      have := (List.pairwise_append.1 hup).2.2 l hm _ (List.mem_singleton.2 rfl)
      simp only [decide_eq_false_iff_not]; omega
  have L := h.full.lowWith hl
  have T := h.full.topWith he hl
  have LL := allLow_low (e := e) hup
  have TL := allTop_low he hup
  have lowL : LowF (G.lowWith e (M - F.keys[i])) := L.is.elim (fun q => by rw [q]; exact FitOk.zero.low) (LL _)
  have topL : LowF (G.topWith e (M - F.keys[i])) := T.is.elim (fun q => by rw [q]; exact FitOk.zero.top) (TL _)
  have h1 : ¬ ltF F.low (G.lowWith e (M - F.keys[i])) := by
    rcases L.is with q | q
    · rw [q]; exact hF.low.ge
    · rw [hK] at q; exact hF.low.all _ (drop_low (turned_low q))
  have h2 : ¬ ltF (G.topWith e (M - F.keys[i])) F.top := by
    rcases T.is with q | q
    · rw [q]; exact hF.top.le
    · rw [hK] at q; exact hF.top.all _ (drop_top (turned_top q))
  have h3 := ltF_trans' lowL.ok hF.ok.low.ok hF.ok.top.ok h1 hF.fit
  have h4 := ltF_trans' lowL.ok hF.ok.top.ok topL.ok h3 h2
  have hadd : G.add e (M - F.keys[i]) = ((true, 0), ⟨G.keys ++ [M - F.keys[i]], G.lowWith e (M - F.keys[i]), G.topWith e (M - F.keys[i])⟩) := by
    unfold Fit.add
    rw [hl, if_neg (by simp), if_neg h4]
  exact ⟨_, hadd, h.full.add he hadd, hK⟩
theorem Turn.end {e M : Int} (he : 0 ≤ e) {F G : Fit} (hF : Full e F) (h : Turn e M F 0 G) : G.keys.length = F.keys.length ∧ G.low = F.low ∧ G.top = F.top := by
  have hk : G.keys = turned M F.keys := by simpa using h.keys
  have hk2 : F.keys = turned M G.keys := by rw [hk, turned_turned]
  refine ⟨by rw [hk, turned_len], ?_, ?_⟩
  · exact MaxOf.uniq FitOk.zero.low (allLow_low hF.ok.up) (h.full.low.congr fun x => ⟨fun q => by rw [hk]; rw [hk2] at q; rw [← hk]; exact turned_low q, fun q => by rw [hk] at q; exact turned_low q⟩) hF.low
  · exact MinOf.uniq FitOk.zero.top (allTop_low he hF.ok.up) (h.full.top.congr fun x => ⟨fun q => by rw [hk]; rw [hk2] at q; rw [← hk]; exact turned_top q, fun q => by rw [hk] at q; exact turned_top q⟩) hF.top
end Go.Proofs.Ytnccgpdniigekaa
/-
  Plain: whether some line with a slope is near to keys; the slopes of a fit are, and none is to what was refused.
-/
namespace Go.Proofs.Ytnccgpdniigekaa
set_option linter.unusedVariables false
set_option linter.unusedSimpArgs false

theorem sign_mul {x y q d : Int} (h : x * q = y * d) (hq : 0 < q) (hd : 0 < d) : 0 < x ↔ 0 < y := by
  constructor
  · intro hx
    refine Int.not_le.1 fun hy => ?_
    have h1 := Int.mul_pos hx hq
    have h2 : 0 ≤ (-y) * d := Int.mul_nonneg (by omega) (by omega)
    rw [Int.neg_mul] at h2
    omega
  · intro hy
    refine Int.not_le.1 fun hx => ?_
    have h1 := Int.mul_pos hy hd
    have h2 : 0 ≤ (-x) * q := Int.mul_nonneg (by omega) (by omega)
    rw [Int.neg_mul] at h2
    omega
theorem ltF_lowest {s : Fr} {n d : Int} (hn : 0 ≤ n) (hd : 0 < d) : ltF s (lowest n d) ↔ s.1 * d < n * s.2 := by
  obtain ⟨_, e, p, _⟩ := lowest_low hn hd
  unfold ltF
  generalize (lowest n d).1 = x at *; generalize (lowest n d).2 = y at *
  have k : (x * s.2 - s.1 * y) * d = (n * s.2 - s.1 * d) * y := by
    have : (x * s.2 - s.1 * y) * d = (x * d) * s.2 - s.1 * d * y := by grind
    rw [this, e]; grind
  have := sign_mul k hd p
  omega
theorem lowest_ltF {s : Fr} {n d : Int} (hn : 0 ≤ n) (hd : 0 < d) : ltF (lowest n d) s ↔ n * s.2 < s.1 * d := by
  obtain ⟨_, e, p, _⟩ := lowest_low hn hd
  unfold ltF
  generalize (lowest n d).1 = x at *; generalize (lowest n d).2 = y at *
  have k : (s.1 * y - x * s.2) * d = (s.1 * d - n * s.2) * y := by
    have : (s.1 * y - x * s.2) * d = s.1 * d * y - (x * d) * s.2 := by grind
    rw [this, e]; grind
  have := sign_mul k hd p
  omega

theorem Full.den_low {e : Int} {F : Fit} (h : Full e F) : F.low.2 ≠ 0 := by
  rcases h.low.is with q | ⟨i, j, hij, hj, hp, q⟩
  · rw [q]; simp
  · rw [q]; have := (lowest_low (n := (j : Int) - i - 2 * e) (d := F.keys.getD j 0 - F.keys.getD i 0) (by omega) (by have := getD_lt h.ok.up hij hj; omega)).2.2.1; omega
/-- The numerators are small. -/
theorem Full.num_low {e : Int} (he : 0 ≤ e) {F : Fit} (h : Full e F) : F.low.1 ≤ F.keys.length := by
  rcases h.low.is with q | ⟨i, j, hij, hj, hp, q⟩
  · rw [q]; simp only []; omega
  · rw [q]; have := (lowest_low (n := (j : Int) - i - 2 * e) (d := F.keys.getD j 0 - F.keys.getD i 0) (by omega) (by have := getD_lt h.ok.up hij hj; omega)).2.2.2.1; omega
end Go.Proofs.Ytnccgpdniigekaa
